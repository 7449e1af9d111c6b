/- The walk of the law MatchGreedy. (Printed by tools/greedygen.py.) -/
import Derived.Test.YtigbfgmgdfnhcaaGr
import Derived.Test.YtigbfgmgdfnhcaaBaseA0
set_option linter.all false
set_option linter.unusedVariables false
set_option linter.unusedSimpArgs false
namespace Go.Proofs.Ytigbfgmgdfnhcaa
open Go.RowKit

theorem digL_len (n : Nat) : (digL n).length ≤ 2 := by unfold digL; split <;> simp
theorem rep_one (S : ByteArray) (i : Nat) (h : S.data.toList = List.replicate i 97) : (S ++ ({ data := #[97] } : ByteArray)).data.toList = List.replicate (i + 1) 97 := by
  rw [ByteArray.data_append, Array.toList_append, h, List.replicate_succ']
set_option maxRecDepth 100000 in
set_option maxHeartbeats 8000000 in
theorem greedy_law (a : Int) (a0 : 0 ≤ a) (a1 : a ≤ 255) (b : Int) (b0 : 0 ≤ b) (b1 : b ≤ 255) (d : Int) (d0 : 0 ≤ d) (d1 : d ≤ 255) (lzy : Bool) (W : World) :
    Calls Try.prog 3 #[.int .u8 a, .int .u8 b, .int .u8 d, .bool lzy] W fun e w' => e = .returned (.bool true) ∧ Below W.heap.size W w' := by
  have HFIN : Hid (∀ w', Upd (fun _ => False) W w' → Below W.heap.size W w') := Lib.hid (fun w' h => h.below (Nat.le_refl _) (fun _ _ h => h))
  have HUB := Lib.hid (Upd.refl (fun _ => False) W)
  obtain ⟨w, rfl⟩ : ∃ w, w = W := ⟨_, rfl⟩
  have hU0 := Upd.refl (fun k => w.heap.size ≤ k) w
  have hz := Nat.le_refl w.heap.size
  obtain ⟨mn, hmn⟩ : ∃ n : Nat, a % 80 = (n : Int) := ⟨(a % 80).toNat, by omega⟩
  obtain ⟨fr, hfr⟩ : ∃ n : Nat, b % 30 = (n : Int) := ⟨(b % 30).toNat, by omega⟩
  obtain ⟨mo, hmo⟩ : ∃ n : Nat, d % 30 = (n : Int) := ⟨(d % 30).toNat, by omega⟩
  have lmn : mn < 80 := by omega
  have lfr : fr < 30 := by omega
  have lmo : mo < 30 := by omega
  obtain ⟨l1, hr1⟩ := at_gr lfr lmo lzy mn
  have hq := comp_gr lfr lmo lzy
  have hgM := fun p => gM_ends p
  obtain ⟨q, hqq⟩ : ∃ q, qGr fr mo lzy = q := ⟨_, rfl⟩
  rw [hqq] at hr1 hq
  clear hqq
  obtain ⟨wt, hwt⟩ : ∃ wt : Nat, (if lzy = true then fr else min mn (fr + mo)) = wt := ⟨_, rfl⟩
  rw [hwt] at hr1
  obtain ⟨m1, is1, hr2, his⟩ : ∃ m is, atF q (List.replicate mn 97) 0 5000 = some ⟨m, (l1 : Int), is, 0⟩ ∧ ((fr ≤ mn ∧ is = true ∧ m = gM wt) ∨ (¬ fr ≤ mn ∧ is = false)) := by
    by_cases h : fr ≤ mn
    · rw [if_pos h] at hr1; exact ⟨_, _, hr1, .inl ⟨h, rfl, rfl⟩⟩
    · rw [if_neg h] at hr1; exact ⟨_, _, hr1, .inr ⟨h, rfl⟩⟩
  obtain ⟨D1, hD1⟩ : ∃ D, matchC m1 = D := ⟨_, rfl⟩
  have MD1 : Hid (MD D1) := Lib.hid (by rw [← hD1]; exact md_of (atF_len hr2))
  have HF : Hid (is1 = true → D1[0]? = some (.int .i64 0) ∧ D1[1]? = some (.int .i64 (wt : Int))) := Lib.hid (fun hi => by
    rcases his with ⟨_, _, rfl⟩ | ⟨_, h⟩
    · have h := gM_ends wt
      rw [← hD1]
      have e0 := match_from (gM wt)
      have e1 := match_to (gM wt)
      rw [h.1] at e0
      rw [h.2] at e1
      exact ⟨e0, e1⟩
    · rw [hi] at h; cases h)
  have HD1 := Lib.hid hD1
  have HR1 : Hid (∀ S : ByteArray, S.data.toList = List.replicate mn 97 → atF q S.data.toList 0 5000 = some ⟨m1, (l1 : Int), is1, 0⟩) := Lib.hid (fun S h => by rw [h]; exact hr2)
  have HQ : Hid (∀ L, L = greedyL fr (fr + mo) lzy → compiledF L false = some q) := Lib.hid (fun L h => by rw [h]; exact hq)
  have HIS := Lib.hid his
  have HWT := Lib.hid hwt
  have HMN := Lib.hid hmn
  have HFR := Lib.hid hfr
  have HMO := Lib.hid hmo
  clear hr1 hr2 hq hgM hD1 his hwt hmn hfr hmo
  go_enter Try.func3, Try.ntmps3
  go_upto_region 4 with fail
  rw [HMN.out, HFR.out, HMO.out]
  have tokc0 : True := trivial
  have tokc1 : True := trivial
  have tokc2 : True := trivial
  have tokc3 : True := trivial
  have tokc4 : True := trivial
  have tokd1 : True := trivial
  have tokd2 : True := trivial
  cases lzy
  all_goals
    go_upto_region 8 with (first
      | ((with_reducible refine stopAdd 9 9 _ _ rfl ?_); unfold Stop; have _t := tokc0; refine wpList_cat rfl rfl rfl rfl (by first | omega | (simp only [ByteArray.size_mk', List.size_toArray, List.length_cons, List.length_nil]; omega)) ?_; intro c0 hc zc; have C0 := Lib.hid hc.out; have zc0 : c0.size ≤ 4 := (by first | omega | (simp only [ByteArray.size_mk', List.size_toArray, List.length_cons, List.length_nil] at zc; omega)); clear hc zc tokc0))
    go_wp2_with fail
    go_loopg [13, 14] mn (fun gk lv iv wr => ∃ (i : Nat) (S : ByteArray), lv = .string S ∧ iv = .int .i64 (i : Int) ∧ i + gk = mn ∧ Hid (S.data.toList = List.replicate i 97) ∧ S.size ≤ i ∧ wr = w)
    case atStart => exact ⟨0, _, rfl, rfl, by omega, Lib.hid rfl, by decide, rfl⟩
    case round =>
      obtain ⟨i, S, rfl, rfl, hi, HS, hS, rfl⟩ := hrel
      by_cases hlt : i < mn
      · have gi : (i : Int) < (mn : Int) := by omega
        go_wp2_with fail
        go_roundg (gk - 1)
        case measure => omega
        case rel => exact ⟨i + 1, _, rfl, by go_num, by omega, Lib.hid (rep_one S i HS.out), by rw [ByteArray.size_append]; show S.size + 1 ≤ _; omega, rfl⟩
      · have gi : ¬ (i : Int) < (mn : Int) := by omega
        obtain rfl : mn = i := by omega
        have zS : S.size ≤ 140737488351232 := by omega
        go_upto_region 13 with (first
    | (go_at_call 16; have _t := tokd1; refine (digits_any fr (by omega)).mono ?_; rintro e w9 ⟨rfl, hq9⟩; have zd1 := digL_len fr; replace hz := Nat.le_trans hz (hq9).size; replace hU0 := hU0.then hq9 (fun _ _ h => h.elim); clear hq9 tokd1)
    | (go_at_call 16; have _t := tokd2; refine (digits_any (fr + mo) (by omega)).mono ?_; rintro e w9 ⟨rfl, hq9⟩; have zd2 := digL_len (fr + mo); replace hz := Nat.le_trans hz (hq9).size; replace hU0 := hU0.then hq9 (fun _ _ h => h.elim); clear hq9 tokd2)
    | ((with_reducible refine stopAdd 9 9 _ _ rfl ?_); unfold Stop; have _t := tokc1; refine wpList_cat rfl rfl rfl rfl (by first | omega | (simp only [ByteArray.size_mk', List.size_toArray, List.length_cons, List.length_nil]; omega)) ?_; intro c1 hc zc; have C1 := Lib.hid hc.out; have zc1 : c1.size ≤ 6 := (by first | omega | (simp only [ByteArray.size_mk', List.size_toArray, List.length_cons, List.length_nil] at zc; omega)); clear hc zc tokc1)
    | ((with_reducible refine stopAdd 9 9 _ _ rfl ?_); unfold Stop; have _t := tokc2; refine wpList_cat rfl rfl rfl rfl (by first | omega | (simp only [ByteArray.size_mk', List.size_toArray, List.length_cons, List.length_nil]; omega)) ?_; intro c2 hc zc; have C2 := Lib.hid hc.out; have zc2 : c2.size ≤ 7 := (by first | omega | (simp only [ByteArray.size_mk', List.size_toArray, List.length_cons, List.length_nil] at zc; omega)); clear hc zc tokc2)
    | ((with_reducible refine stopAdd 9 9 _ _ rfl ?_); unfold Stop; have _t := tokc3; refine wpList_cat rfl rfl rfl rfl (by first | omega | (simp only [ByteArray.size_mk', List.size_toArray, List.length_cons, List.length_nil]; omega)) ?_; intro c3 hc zc; have C3 := Lib.hid hc.out; have zc3 : c3.size ≤ 9 := (by first | omega | (simp only [ByteArray.size_mk', List.size_toArray, List.length_cons, List.length_nil] at zc; omega)); clear hc zc tokc3)
    | ((with_reducible refine stopAdd 9 9 _ _ rfl ?_); unfold Stop; have _t := tokc4; refine wpList_cat rfl rfl rfl rfl (by first | omega | (simp only [ByteArray.size_mk', List.size_toArray, List.length_cons, List.length_nil]; omega)) ?_; intro c4 hc zc; have C4 := Lib.hid hc.out; have zc4 : c4.size ≤ 10 := (by first | omega | (simp only [ByteArray.size_mk', List.size_toArray, List.length_cons, List.length_nil] at zc; omega)); clear hc zc tokc4)
    | (go_at_call 15; refine (compiled_any c4 false q (by omega) (HQ.out _ (by rw [cat_list (Lib.hid C4.out), cat_list (Lib.hid C3.out), cat_list (Lib.hid C2.out), cat_list (Lib.hid C1.out)]; first | (simp [greedyL]; done) | (rw [cat_list (Lib.hid C0.out)]; simp [greedyL])))).mono ?_; rintro e w9 ⟨cvP, rfl, hcdP, huP⟩; obtain ⟨caP, ccP, rfl⟩ := hcdP.form; unfold progC; replace hz := Nat.le_trans hz (huP).size; replace hU0 := hU0.then huP (fun _ _ h => h.elim); replace HUB := Lib.hid (HUB.out.then hU0.old (fun _ _ h => h)); have HCP := Lib.hid hcdP.rows; clear hU0 hz hcdP huP; obtain ⟨w, rfl⟩ : ∃ x, x = w9 := ⟨_, rfl⟩; have hU0 := Upd.refl (fun k => w.heap.size ≤ k) w; have hz := Nat.le_refl w.heap.size)
    | (go_at_call 14; refine (at_any q caP ccP S 0 5000 (HCP.out.newer hU0) zS _ (HR1.out _ HS.out)).mono ?_; rintro e w9 ⟨rfl, hq9⟩; unfold resV; rw [HD1.out]; replace hz := Nat.le_trans hz (hq9).size; replace hU0 := hU0.then hq9 (fun _ _ h => h.elim); clear hq9)
    | ((with_reducible refine stopAl 24 rfl ?_); unfold Stop; refine wpList_alloc_blk rfl 24 rfl (.agg #[.int .i64 0, .int .i64 0, .int .i64 0, .int .i64 0, .int .i64 0, .int .i64 0, .int .i64 0, .int .i64 0, .int .i64 0, .int .i64 0, .int .i64 0, .int .i64 0, .int .i64 0, .int .i64 0, .int .i64 0, .int .i64 0, .int .i64 0, .int .i64 0, .int .i64 0, .int .i64 0, .int .i64 0, .int .i64 0]) (by kernel_rfl) #[.int .i64 0, .int .i64 0, .int .i64 0, .int .i64 0, .int .i64 0, .int .i64 0, .int .i64 0, .int .i64 0, .int .i64 0, .int .i64 0, .int .i64 0, .int .i64 0, .int .i64 0, .int .i64 0, .int .i64 0, .int .i64 0, .int .i64 0, .int .i64 0, .int .i64 0, .int .i64 0, .int .i64 0, .int .i64 0] rfl ?_; intro bX wn hbn kn hUn hsn; have gX : w.heap.size ≤ bX := Nat.le_trans hU0.size (Nat.le_of_eq hbn); have kX := kn; replace hU0 := hU0.then hUn (fun _ _ h => h.elim); replace hz : w.heap.size ≤ wn.heap.size := (by omega); clear kn hUn hsn hbn; have cX := cells_of kX; (try simp only [progC, zzT, zzO, zzS] at cX); have fX := frees_of kX)
    | ((with_reducible refine stopSt 24 _ _ rfl ?_); unfold Stop; refine wpList_store_blk rfl 24 _ _ rfl bX 0 rfl (.agg D1) rfl #[.int .i64 0, .int .i64 0, .int .i64 0, .int .i64 0, .int .i64 0, .int .i64 0, .int .i64 0, .int .i64 0, .int .i64 0, .int .i64 0, .int .i64 0, .int .i64 0, .int .i64 0, .int .i64 0, .int .i64 0, .int .i64 0, .int .i64 0, .int .i64 0, .int .i64 0, .int .i64 0, .int .i64 0, .int .i64 0] D1 _ kX MD1.out.le MD1.out.info MD1.out.ones MD1.out.spl ?_; intro w8 k8 hu8 hs8; clear cX fX; replace hz := Nat.le_trans hz (hu8).size; replace hU0 := hU0.then hu8 (fun i hi (e : i = bX) => by omega); have kXv := k8; clear k8 kX hu8 hs8; have cXv := cells_of kXv; (try simp only [progC, zzT, zzO, zzS] at cXv); have fXv := frees_of kXv))
        rcases HIS.out with ⟨hfm, rfl, hm⟩ | ⟨hfm, rfl⟩
        · clear hm
          have gfm : (fr : Int) ≤ (mn : Int) := by omega
          go_wp2_with (first
            | (go_at_call 17; refine known_any.mono ?_; rintro e w9 ⟨rfl, hq9⟩; have kX9 := hq9.heap kXv (fun h => h); clear kXv cXv; have d0 := cell_of kX9 0 (HF.out rfl).1; have d1 := cell_of kX9 1 (HF.out rfl).2; clear kX9; replace hz := Nat.le_trans hz (hq9).size; replace hU0 := hU0.then hq9 (fun _ _ h => h.elim); clear hq9))
          go_ret
          exact ⟨ret_bool (by first | rfl | (refine beq_iff_eq.2 ?_; have h := HWT.out; simp only [if_true, if_false, Bool.false_eq_true] at h; omega)), HFIN.out _ (HUB.out.then hU0.old (fun _ _ h => h))⟩
        · have gfm : ¬ (fr : Int) ≤ (mn : Int) := by omega
          clear kXv cXv
          go_wp2_with (first
            | (go_at_call 17; refine known_any.mono ?_; rintro e w9 ⟨rfl, hq9⟩; replace hz := Nat.le_trans hz (hq9).size; replace hU0 := hU0.then hq9 (fun _ _ h => h.elim); clear hq9))
          go_ret
          exact ⟨ret_bool (by first | rfl | (refine beq_iff_eq.2 ?_; have h := HWT.out; simp only [if_true, if_false, Bool.false_eq_true] at h; omega)), HFIN.out _ (HUB.out.then hU0.old (fun _ _ h => h))⟩
end Go.Proofs.Ytigbfgmgdfnhcaa
