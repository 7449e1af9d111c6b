/- The walk of the law MatchTwins. (Printed by tools/twngen.py.) -/
import Derived.Test.YtigbfgmgdfnhcaaTwn
import Derived.Test.YtigbfgmgdfnhcaaBaseA0
set_option linter.all false
set_option linter.unusedVariables false
set_option linter.unusedSimpArgs false
namespace Go.Proofs.Ytigbfgmgdfnhcaa
open Go.RowKit

set_option maxRecDepth 100000 in
set_option maxHeartbeats 8000000 in
theorem twins_law (s : ByteArray) (hs : s.size ≤ maxLen) (mo : ByteArray) (hm : mo.size ≤ maxLen) (fold : Bool) (W : World) :
    Calls Try.prog 4 #[.string s, .string mo, .bool fold] W fun e w' => e = .returned (.bool true) ∧ Below W.heap.size W w' := by
  have HFIN : Hid (∀ w', Upd (fun _ => False) W w' → Below W.heap.size W w') := Lib.hid (fun w' h => h.below (Nat.le_refl _) (fun _ _ h => h))
  have HUB := Lib.hid (Upd.refl (fun _ => False) W)
  obtain ⟨w, rfl⟩ : ∃ w, w = W := ⟨_, rfl⟩
  have hU0 := Upd.refl (fun k => w.heap.size ≤ k) w
  have hz := Nat.le_refl w.heap.size
  clear hs hm
  go_enter Try.func4, Try.ntmps4
  rcases (show 30 < s.size ∨ (¬ 30 < s.size ∧ 30 < mo.size) ∨ (¬ 30 < s.size ∧ ¬ 30 < mo.size) by omega) with h1 | ⟨h1, h2⟩ | ⟨h1, h2⟩
  · have g1 : (30 : Int) < (s.size : Int) := by omega
    go_wp2_with (first
      | (go_at_call 17; refine known_any.mono ?_; rintro e w9 ⟨rfl, hq9⟩; replace hz := Nat.le_trans hz (hq9).size; replace hU0 := hU0.then hq9 (fun _ _ h => h.elim); clear hq9))
    go_ret
    exact ⟨rfl, HFIN.out _ (HUB.out.then hU0.old (fun _ _ h => h))⟩
  · have g1 : ¬ (30 : Int) < (s.size : Int) := by omega
    have g2 : (30 : Int) < (mo.size : Int) := by omega
    go_wp2_with (first
      | (go_at_call 17; refine known_any.mono ?_; rintro e w9 ⟨rfl, hq9⟩; replace hz := Nat.le_trans hz (hq9).size; replace hU0 := hU0.then hq9 (fun _ _ h => h.elim); clear hq9))
    go_ret
    exact ⟨rfl, HFIN.out _ (HUB.out.then hU0.old (fun _ _ h => h))⟩
  · have g1 : ¬ (30 : Int) < (s.size : Int) := by omega
    have g2 : ¬ (30 : Int) < (mo.size : Int) := by omega
    have hsz : s.data.toList.length = s.size := by simp
    have hn : s.data.toList.length ≤ 30 := by omega
    obtain ⟨l1, hr1⟩ := at_twin s.data.toList mo.data.toList fold hn
    have hM := twinM s.data.toList.length
    have hlen := atF_len hr1
    simp only [] at hlen
    rw [hsz] at hr1 hM hlen
    obtain ⟨D1, hD1⟩ : ∃ D, matchC (matchF (twinT s.size) 0) = D := ⟨_, rfl⟩
    have MD1 : Hid (MD D1) := Lib.hid (by rw [← hD1]; exact md_of hlen)
    have HF : Hid (D1[1]? = some (.int .i64 (2 * (s.size : Int))) ∧ D1[3]? = some (.int .i64 0) ∧ D1[13]? = some (.int .i64 (s.size : Int))) := Lib.hid (by
      obtain ⟨m1, m2, m3⟩ := hM
      rw [← hD1]
      have e1 := match_to (matchF (twinT s.size) 0)
      have e2 := match_beg (matchF (twinT s.size) 0) 1 (by rw [hlen.1]; decide)
      have e3 := match_end (matchF (twinT s.size) 0) 1 hlen.1 (by rw [hlen.2]; decide)
      rw [m1, show ((s.size + s.size : Nat) : Int) = 2 * (s.size : Int) by omega] at e1
      rw [m2] at e2
      rw [m3] at e3
      exact ⟨e1, e2, e3⟩)
    have HSP : Hid (∀ L, L = twinL s.size → compiledF L fold = some (qTwin s.size fold)) := Lib.hid (fun L hL => by
      rw [hL]
      exact comp_twin (show s.size ≤ 30 by omega) fold)
    have HR1 : Hid (∀ L, L = s.data.toList ++ s.data.toList ++ mo.data.toList → atF (qTwin s.size fold) L 0 5000 = some ⟨matchF (twinT s.size) 0, l1, true, 0⟩) := Lib.hid (fun L hL => by
      rw [hL]
      exact hr1)
    obtain ⟨q, hq⟩ : ∃ q, qTwin s.size fold = q := ⟨_, rfl⟩
    rw [hq] at HSP HR1
    clear hq
    have HD1 := Lib.hid hD1
    have hdl : (digL s.size).length ≤ 2 := by unfold digL; split <;> simp
    clear hr1 hM hlen hD1 hsz hn
    have tokc1 : True := trivial
    have tokc2 : True := trivial
    have tokc3 : True := trivial
    have tokc4 : True := trivial
    go_upto_region 3 with (first
      | (go_at_call 17; refine known_any.mono ?_; rintro e w9 ⟨rfl, hq9⟩; replace hz := Nat.le_trans hz (hq9).size; replace hU0 := hU0.then hq9 (fun _ _ h => h.elim); clear hq9))
    go_upto_region 4 with (first
    | (go_at_call 16; refine (digits_any s.size (by omega)).mono ?_; rintro e w9 ⟨rfl, hq9⟩; replace hz := Nat.le_trans hz (hq9).size; replace hU0 := hU0.then hq9 (fun _ _ h => h.elim); clear hq9)
    | ((with_reducible refine stopAdd 9 9 _ _ rfl ?_); unfold Stop; have _t := tokc1; refine wpList_cat rfl rfl rfl rfl (by first | omega | (simp only [ByteArray.size_mk', List.size_toArray, List.length_cons, List.length_nil]; omega)) ?_; intro c1 hc zc; have C1 := Lib.hid hc.out; have zc1 : c1.size ≤ 7 := (by first | omega | (simp only [ByteArray.size_mk', List.size_toArray, List.length_cons, List.length_nil] at zc; omega)); clear hc zc tokc1)
    | ((with_reducible refine stopAdd 9 9 _ _ rfl ?_); unfold Stop; have _t := tokc2; refine wpList_cat rfl rfl rfl rfl (by first | omega | (simp only [ByteArray.size_mk', List.size_toArray, List.length_cons, List.length_nil]; omega)) ?_; intro c2 hc zc; have C2 := Lib.hid hc.out; have zc2 : c2.size ≤ 12 := (by first | omega | (simp only [ByteArray.size_mk', List.size_toArray, List.length_cons, List.length_nil] at zc; omega)); clear hc zc tokc2)
    | (go_at_call 15; refine (compiled_any c2 fold q (by omega) (HSP.out _ (by rw [cat_list (Lib.hid C2.out), cat_list (Lib.hid C1.out)]; simp [twinL]))).mono ?_; rintro e w9 ⟨cvP, rfl, hcdP, huP⟩; obtain ⟨caP, ccP, rfl⟩ := hcdP.form; unfold progC; replace hz := Nat.le_trans hz (huP).size; replace hU0 := hU0.then huP (fun _ _ h => h.elim); replace HUB := Lib.hid (HUB.out.then hU0.old (fun _ _ h => h)); have HCP := Lib.hid hcdP.rows; clear hU0 hz hcdP huP; obtain ⟨w, rfl⟩ : ∃ x, x = w9 := ⟨_, rfl⟩; have hU0 := Upd.refl (fun k => w.heap.size ≤ k) w; have hz := Nat.le_refl w.heap.size)
    | ((with_reducible refine stopAl 31 rfl ?_); unfold Stop; refine wpList_alloc_blk rfl 31 rfl (.agg #[.slice none 0 0, .int .i64 0, .bool false]) (by kernel_rfl) #[.slice none 0 0, .int .i64 0, .bool false] rfl ?_; intro bP wn hbn kn hUn hsn; have gP : w.heap.size ≤ bP := Nat.le_trans hU0.size (Nat.le_of_eq hbn); have kP := kn; replace hU0 := hU0.then hUn (fun _ _ h => h.elim); replace hz : w.heap.size ≤ wn.heap.size := (by omega); clear kn hUn hsn hbn; have cP := cells_of kP; (try simp only [progC, zzT, zzO, zzS] at cP); have fP := frees_of kP)
    | ((with_reducible refine stopSt 31 _ _ rfl ?_); unfold Stop; refine wpList_store_blk rfl 31 _ _ rfl _ _ rfl _ (by go_simp; first | done | exact rfl) _ _ _ kP (zzB rfl) (by kernel_rfl) rfl (by simp only [spl, progC, Value.cells, zzT, zzO, zzS, Array.toList]; exact rfl) ?_; intro wn kn hUn hsn; clear cP fP; replace kP := kn; replace hU0 := hU0.then hUn (fun i hi (e : i = _) => by first | exact e | exact absurd hi (by omega) | (subst e; first | assumption | (show _ ≤ _; omega)) | exact .inl e | exact .inr e | exact .inr (.inl e) | exact .inr (.inr e)); replace hz := Nat.le_trans hz (Nat.le_of_eq hsn.symm); clear kn hUn hsn; have cP := cells_of kP; (try simp only [progC, zzT, zzO, zzS] at cP); have fP := frees_of kP))
    go_upto_region 5 with (first
    | ((with_reducible refine stopLd 31 _ rfl ?_); unfold Stop; refine wpList_load_row rfl 31 _ rfl _ rfl 31 _ (0, 0) _ kP Try.underlying31 rfl (by kernel_rfl) ?_)
    | ((with_reducible refine stopAdd 9 9 _ _ rfl ?_); unfold Stop; have _t := tokc3; refine wpList_cat rfl rfl rfl rfl (by first | omega | (simp only [ByteArray.size_mk', List.size_toArray, List.length_cons, List.length_nil]; omega)) ?_; intro c3 hc zc; have C3 := Lib.hid hc.out; have zc3 : c3.size ≤ 60 := (by first | omega | (simp only [ByteArray.size_mk', List.size_toArray, List.length_cons, List.length_nil] at zc; omega)); clear hc zc tokc3)
    | ((with_reducible refine stopAdd 9 9 _ _ rfl ?_); unfold Stop; have _t := tokc4; refine wpList_cat rfl rfl rfl rfl (by first | omega | (simp only [ByteArray.size_mk', List.size_toArray, List.length_cons, List.length_nil]; omega)) ?_; intro c4 hc zc; have C4 := Lib.hid hc.out; have zc4 : c4.size ≤ 90 := (by first | omega | (simp only [ByteArray.size_mk', List.size_toArray, List.length_cons, List.length_nil] at zc; omega)); clear hc zc tokc4)
    | (go_at_call 14; refine (at_any q caP ccP c4 0 5000 (HCP.out.newer hU0) (by omega) _ (HR1.out _ (by rw [cat_list (Lib.hid C4.out), cat_list (Lib.hid C3.out)]))).mono ?_; rintro e w9 ⟨rfl, hq9⟩; unfold resV; rw [HD1.out]; clear cP fP; replace kP := (hq9).heap kP (fun h => h); replace hz := Nat.le_trans hz (hq9).size; replace hU0 := hU0.then hq9 (fun _ _ h => h.elim); have cP := cells_of kP; (try simp only [progC, zzT, zzO, zzS] at cP); have fP := frees_of kP; clear hq9)
    | ((with_reducible refine stopAl 24 rfl ?_); unfold Stop; refine wpList_alloc_blk rfl 24 rfl (.agg #[.int .i64 0, .int .i64 0, .int .i64 0, .int .i64 0, .int .i64 0, .int .i64 0, .int .i64 0, .int .i64 0, .int .i64 0, .int .i64 0, .int .i64 0, .int .i64 0, .int .i64 0, .int .i64 0, .int .i64 0, .int .i64 0, .int .i64 0, .int .i64 0, .int .i64 0, .int .i64 0, .int .i64 0, .int .i64 0]) (by kernel_rfl) #[.int .i64 0, .int .i64 0, .int .i64 0, .int .i64 0, .int .i64 0, .int .i64 0, .int .i64 0, .int .i64 0, .int .i64 0, .int .i64 0, .int .i64 0, .int .i64 0, .int .i64 0, .int .i64 0, .int .i64 0, .int .i64 0, .int .i64 0, .int .i64 0, .int .i64 0, .int .i64 0, .int .i64 0, .int .i64 0] rfl ?_; intro bX wn hbn kn hUn hsn; clear cP fP; have lPX := heap_lt kP; rw [hbn] at lPX; replace kP := hUn.heap kP (fun h => h); have gX : w.heap.size ≤ bX := Nat.le_trans hU0.size (Nat.le_of_eq hbn); have kX := kn; replace hU0 := hU0.then hUn (fun _ _ h => h.elim); replace hz : w.heap.size ≤ wn.heap.size := (by omega); clear kn hUn hsn hbn; have cX := cells_of kX; (try simp only [progC, zzT, zzO, zzS] at cX); have fX := frees_of kX; have cP := cells_of kP; (try simp only [progC, zzT, zzO, zzS] at cP); have fP := frees_of kP)
    | ((with_reducible refine stopSt 24 _ _ rfl ?_); unfold Stop; refine wpList_store_blk rfl 24 _ _ rfl bX 0 rfl (.agg D1) rfl #[.int .i64 0, .int .i64 0, .int .i64 0, .int .i64 0, .int .i64 0, .int .i64 0, .int .i64 0, .int .i64 0, .int .i64 0, .int .i64 0, .int .i64 0, .int .i64 0, .int .i64 0, .int .i64 0, .int .i64 0, .int .i64 0, .int .i64 0, .int .i64 0, .int .i64 0, .int .i64 0, .int .i64 0, .int .i64 0] D1 _ kX MD1.out.le MD1.out.info MD1.out.ones MD1.out.spl ?_; intro w8 k8 hu8 hs8; clear cX fX; clear cP fP; replace kP := (hu8).heap kP ((by omega)); replace hz := Nat.le_trans hz (hu8).size; replace hU0 := hU0.then hu8 (fun i hi (e : i = bX) => by omega); have cP := cells_of kP; (try simp only [progC, zzT, zzO, zzS] at cP); have fP := frees_of kP; have kXv := k8; clear k8 kX hu8 hs8; have cXv := cells_of kXv; (try simp only [progC, zzT, zzO, zzS] at cXv); have fXv := frees_of kXv))
    have d1 := cell_of kXv 1 HF.out.1
    have d3 := cell_of kXv 3 HF.out.2.1
    have d13 := cell_of kXv 13 HF.out.2.2
    clear cXv
    go_wp2_with fail
    go_ret
    exact ⟨rfl, HFIN.out _ (HUB.out.then hU0.old (fun _ _ h => h))⟩
end Go.Proofs.Ytigbfgmgdfnhcaa
