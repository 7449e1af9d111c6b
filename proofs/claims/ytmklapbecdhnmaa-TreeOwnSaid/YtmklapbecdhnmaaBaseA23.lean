/- Lemmas that the law's proof stands on, part 23: Tvn, Tvo, Tvp. No condition. -/
import Derived.Test.YtmklapbecdhnmaaBaseA0
import Derived.Test.YtmklapbecdhnmaaBaseA22
set_option linter.all false
set_option linter.unusedVariables false
set_option linter.unusedSimpArgs false
namespace Go.Proofs.Ytmklapbecdhnmaa
open Go.RowKit
set_option maxRecDepth 100000 in
set_option maxHeartbeats 16000000 in
theorem does_get {w : World} {bt br : Nat} {O1 O2 : Nat → Prop} {n : Nat} {ls : List ByteArray} (h : Both w bt br O1 O2 n ls) (hn : n + 24 * 52 ≤ 600000) (o : OpD) (v : Value) (hk : o.kind % 10 = 7) (hok : o.ok) (h50 : o.l.length ≤ 50) {F : Nat → Prop} (hv : Rds F w v o.l) (hd : ∀ k, F k → ¬ (O1 k ∨ O2 k)) :
    Calls Try.prog 25 #[.pointer (some ⟨bt, 0, none⟩), .pointer (some ⟨br, 0, none⟩), .agg (opC o v)] w (DoesP w bt br O1 O2 (n + 24 * 51) ls) := by
  obtain ⟨kind, oi, on, os, ol⟩ := o
  unfold opC
  unfold OpD.ok at hok
  simp only [] at hk hok h50 hv ⊢
  obtain ⟨⟨k0, k255⟩, hoi, hon, hos, hol⟩ := hok
  have hfew := h.1.few
  obtain ⟨x, hx⟩ : ∃ x, (if 0 ≤ oi ∧ oi < (ls.length : Int) then ls.getD oi.toNat ⟨#[]⟩ else ⟨#[]⟩) = x := ⟨_, rfl⟩
  obtain ⟨ok, hok⟩ : ∃ ok, decide (0 ≤ oi ∧ oi < (ls.length : Int)) = ok := ⟨_, rfl⟩
  have HC1 : Hid (∀ w2, Tr w2 bt O1 n ls → Calls Try.prog 19 #[.pointer (some ⟨bt, 0, none⟩), .int .i64 oi] w2 fun e w' => e = .returned (.tuple #[.string x, .bool ok]) ∧ From w2 w') := Lib.hid (fun w2 ht => by rw [← hx, ← hok]; exact Get_tr ht (by omega) oi)
  have HC2 : Hid (∀ w2, RT w2 br O2 ls → Calls Try.prog 41 #[.pointer (some ⟨br, 0, none⟩), .int .i64 oi] w2 fun e w' => e = .returned (.tuple #[.string x, .bool ok]) ∧ w2 = w') := Lib.hid (fun w2 hr => by rw [← hx, ← hok]; exact RGet_any hr oi)
  clear hx hok hv hd hol
  have HB0 := Lib.hid h
  clear h
  obtain ⟨K, hK⟩ : ∃ K, kind % 10 = K := ⟨_, rfl⟩
  rw [hK] at hk
  go_enter Try.func25, Try.ntmps25
  go_upto_region 2 with (first
    | ((with_reducible refine stopBx 50 _ rfl ?_); unfold Stop; refine wpList_box_blk rfl 50 _ rfl _ (by go_simp; first | done | exact rfl) #[.int .u8 kind, .int .i64 oi, .int .i64 on, .string os, v] rfl ?_; intro bO w1 hbO kO hu1 hs1; have c0 := cell_of kO 0 (v := .int .u8 kind) rfl; have c1 := cell_of kO 1 (v := .int .i64 oi) rfl; have c2 := cell_of kO 2 (v := .int .i64 on) rfl; have c3 := cell_of kO 3 (v := .string os) rfl; have c4 := cell_of kO 4 (v := v) rfl))
  rw [hK]
  subst hk
  clear c0 hK
  have HU1 := Lib.hid hu1
  have HBn : Hid (¬ (O1 bO ∨ O2 bO)) := Lib.hid (fun e => by
    rcases e with e | e
    · have := HB0.out.1.lt e; omega
    · have := HB0.out.2.1.lt e; omega)
  clear hu1 hs1 hbO kO
  have HB1 := Lib.hid (HB0.out.newer HU1.out)
  go_upto_region 11 with (first
    | (go_at_call 19; refine (HC1.out _ HB1.out.1).mono ?_; rintro e w2 ⟨rfl, hq2⟩))
  have hu2 := false_upd2 hq2
  have HB2 := Lib.hid (HB1.out.newer hu2)
  have HU2 := Lib.hid (HU1.out.then hu2 (fun _ _ e => e))
  replace c1 := hu2.cell c1 (fun e => e)
  clear c2 c3 c4 hq2 hu2
  go_wp2_with (first
    | (go_at_call 41; refine (HC2.out _ HB2.out.2.1).mono ?_; rintro e w3 ⟨rfl, rfl⟩))
  go_ret
  exact ⟨by simp, BothP.mono (BothP.refl HB0.out HU2.out) (by omega)⟩
set_option maxRecDepth 100000 in
set_option maxHeartbeats 16000000 in
theorem does_part {w : World} {bt br : Nat} {O1 O2 : Nat → Prop} {n : Nat} {ls : List ByteArray} (h : Both w bt br O1 O2 n ls) (hn : n + 24 * 52 ≤ 600000) (o : OpD) (v : Value) (hk : o.kind % 10 = 8) (hok : o.ok) (h50 : o.l.length ≤ 50) {F : Nat → Prop} (hv : Rds F w v o.l) (hd : ∀ k, F k → ¬ (O1 k ∨ O2 k)) :
    Calls Try.prog 25 #[.pointer (some ⟨bt, 0, none⟩), .pointer (some ⟨br, 0, none⟩), .agg (opC o v)] w (DoesP w bt br O1 O2 (n + 24 * 51) ls) := by
  obtain ⟨kind, oi, on, os, ol⟩ := o
  unfold opC
  unfold OpD.ok at hok
  simp only [] at hk hok h50 hv ⊢
  obtain ⟨⟨k0, k255⟩, hoi, hon, hos, hol⟩ := hok
  have hfew := h.1.few
  obtain ⟨M, hM⟩ : ∃ M, (if 0 ≤ oi ∧ 0 ≤ on ∧ oi + on ≤ (ls.length : Int) then (ls.drop oi.toNat).take on.toNat else []) = M := ⟨_, rfl⟩
  obtain ⟨ok, hok⟩ : ∃ ok, decide (0 ≤ oi ∧ 0 ≤ on ∧ oi + on ≤ (ls.length : Int)) = ok := ⟨_, rfl⟩
  have HC1 : Hid (∀ w2, Tr w2 bt O1 n ls → Calls Try.prog 18 #[.pointer (some ⟨bt, 0, none⟩), .int .i64 oi, .int .i64 on] w2 (PPost w2 ok M)) := Lib.hid (fun w2 ht => by rw [← hM, ← hok]; exact Part_tr ht (by omega) oi on)
  have HC2 : Hid (∀ w2, RT w2 br O2 ls → Calls Try.prog 42 #[.pointer (some ⟨br, 0, none⟩), .int .i64 oi, .int .i64 on] w2 (PPost w2 ok M)) := Lib.hid (fun w2 hr => by rw [← hM, ← hok]; exact RPart_any hr oi on hon.2)
  clear hM hok hv hd hol
  have HB0 := Lib.hid h
  clear h
  obtain ⟨K, hK⟩ : ∃ K, kind % 10 = K := ⟨_, rfl⟩
  rw [hK] at hk
  go_enter Try.func25, Try.ntmps25
  go_upto_region 2 with (first
    | ((with_reducible refine stopBx 50 _ rfl ?_); unfold Stop; refine wpList_box_blk rfl 50 _ rfl _ (by go_simp; first | done | exact rfl) #[.int .u8 kind, .int .i64 oi, .int .i64 on, .string os, v] rfl ?_; intro bO w1 hbO kO hu1 hs1; have c0 := cell_of kO 0 (v := .int .u8 kind) rfl; have c1 := cell_of kO 1 (v := .int .i64 oi) rfl; have c2 := cell_of kO 2 (v := .int .i64 on) rfl; have c3 := cell_of kO 3 (v := .string os) rfl; have c4 := cell_of kO 4 (v := v) rfl))
  rw [hK]
  subst hk
  clear c0 hK
  have HU1 := Lib.hid hu1
  have HBn : Hid (¬ (O1 bO ∨ O2 bO)) := Lib.hid (fun e => by
    rcases e with e | e
    · have := HB0.out.1.lt e; omega
    · have := HB0.out.2.1.lt e; omega)
  clear hu1 hs1 hbO kO
  have HB1 := Lib.hid (HB0.out.newer HU1.out)
  go_upto_region 15 with (first
    | (go_at_call 18; refine (HC1.out _ HB1.out.1).mono ?_; rintro e w2 ⟨v2, rfl, hr2, hu2, hn2⟩))
  have HB2 := Lib.hid (HB1.out.newer hu2)
  have HU2 := Lib.hid (HU1.out.then hu2 (fun _ _ e => e))
  have HR2 := Lib.hid hr2
  replace c1 := hu2.cell c1 (fun e => e)
  replace c2 := hu2.cell c2 (fun e => e)
  clear c3 c4 hu2 hr2 hn2
  go_upto_region 16 with (first
    | (go_at_call 42; refine (HC2.out _ HB2.out.2.1).mono ?_; rintro e w3 ⟨v3, rfl, hr3, hu3, hn3⟩))
  have HU3 := Lib.hid (HU2.out.then hu3 (fun _ _ e => e))
  have HS : Hid (Calls Try.prog 13 #[v2, v3] w3 fun e w' => e = .returned (.bool true) ∧ From w3 w') := Lib.hid (Same_any (Rds.of_row (HR2.out.upd hu3 (fun _ _ e => e))) (Rds.of_row hr3) rfl true (decide_eq_true rfl))
  clear c1 c2 hu3 hr3 hn3
  go_wp2_with (first
    | (go_at_call 13; refine HS.out.mono ?_; rintro e w4 ⟨rfl, hq4⟩))
  go_ret
  exact ⟨by simp, BothP.mono (BothP.refl HB0.out (HU3.out.then (false_upd2 hq4) (fun _ _ e => e))) (by omega)⟩
set_option maxRecDepth 100000 in
set_option maxHeartbeats 16000000 in
theorem does_mod {w : World} {bt br : Nat} {O1 O2 : Nat → Prop} {n : Nat} {ls : List ByteArray} (h : Both w bt br O1 O2 n ls) (hn : n + 24 * 52 ≤ 600000) (o : OpD) (v : Value) (hk : o.kind % 10 = 9) (hok : o.ok) (h50 : o.l.length ≤ 50) {F : Nat → Prop} (hv : Rds F w v o.l) (hd : ∀ k, F k → ¬ (O1 k ∨ O2 k)) :
    Calls Try.prog 25 #[.pointer (some ⟨bt, 0, none⟩), .pointer (some ⟨br, 0, none⟩), .agg (opC o v)] w (DoesP w bt br O1 O2 (n + 24 * 51) (delM ls (max o.i 0 % ((ls.length : Int) + 1)))) := by
  obtain ⟨kind, oi, on, os, ol⟩ := o
  unfold opC
  unfold OpD.ok at hok
  simp only [] at hk hok h50 hv ⊢
  obtain ⟨⟨k0, k255⟩, hoi, hon, hos, hol⟩ := hok
  have hfew := h.1.few
  obtain ⟨N, hN⟩ : ∃ N, ls.length = N := ⟨_, rfl⟩
  rw [hN] at hfew
  have HN := Lib.hid hN
  clear hv hd hol
  have HB0 := Lib.hid h
  clear h
  obtain ⟨K, hK⟩ : ∃ K, kind % 10 = K := ⟨_, rfl⟩
  rw [hK] at hk
  go_enter Try.func25, Try.ntmps25
  go_upto_region 2 with (first
    | ((with_reducible refine stopBx 50 _ rfl ?_); unfold Stop; refine wpList_box_blk rfl 50 _ rfl _ (by go_simp; first | done | exact rfl) #[.int .u8 kind, .int .i64 oi, .int .i64 on, .string os, v] rfl ?_; intro bO w1 hbO kO hu1 hs1; have c0 := cell_of kO 0 (v := .int .u8 kind) rfl; have c1 := cell_of kO 1 (v := .int .i64 oi) rfl; have c2 := cell_of kO 2 (v := .int .i64 on) rfl; have c3 := cell_of kO 3 (v := .string os) rfl; have c4 := cell_of kO 4 (v := v) rfl))
  rw [hK]
  subst hk
  clear c0 hK
  have HU1 := Lib.hid hu1
  have HBn : Hid (¬ (O1 bO ∨ O2 bO)) := Lib.hid (fun e => by
    rcases e with e | e
    · have := HB0.out.1.lt e; omega
    · have := HB0.out.2.1.lt e; omega)
  clear hu1 hs1 hbO kO
  have HB1 := Lib.hid (HB0.out.newer HU1.out)
  have gs : IntKind.i64.wrap ((N : Int) + 1) = (N : Int) + 1 := IntWalk.i64_in _ (by omega)
  have gn : ¬ ((N : Int) + 1 = 0) := by omega
  go_wp2
  first | (refine wq_region_from_still ?_) | (refine wq_region_from (by kernel_rfl) (by kernel_rfl) ?_)
  repeat
    first
      | ((refine WQ_skip (by rfl) ?_); (try simp only [Act.put, zzT, zzO, zzS]))
      | (apply WQ_val (by rfl); (focus (intro w' hC; (have r1 := From.cell hC c1); go_simp; (first | done | exact rfl | (rw [if_pos (by omega)]; done) | (exact str_idx (by omega))))); (try simp only [Act.put, zzT, zzO, zzS]))
      | (apply WQ_call (by rfl); (focus (intro w' hC; go_simp; (first | done | exact rfl | exact ⟨rfl, rfl⟩))); (focus (intro w' hC; first | (have hh := RLen_any (HB1.out.2.1.upd (false_upd2 hC) (fun _ _ e => e)); rw [HN.out] at hh; exact From.of_calls hC hh))); (try simp only [Act.put, zzT, zzO, zzS]))
  refine WQ_nil ?_
  intro wq hq
  obtain ⟨k, hk⟩ : ∃ k, max oi 0 % ((N : Int) + 1) = k := ⟨_, rfl⟩
  have hmod : (max oi 0).tmod ((N : Int) + 1) = k := by rw [← hk]; exact Int.tmod_eq_emod_of_nonneg (Int.le_max_right _ _)
  rw [hmod]
  have HK : Hid (max oi 0 % ((ls.length : Int) + 1) = k) := Lib.hid (by rw [hN]; exact hk)
  have HUQ := Lib.hid (HU1.out.then (false_upd2 hq) (fun _ _ e => e))
  have HBQ := Lib.hid (HB0.out.newer HUQ.out)
  have hp1 := Delete_tr HBQ.out.1 (by omega) k
  have hp2 := fun (w2 : World) (q : RT w2 br O2 ls) => RDelete_any q k
  change Calls _ _ _ _ (fun e w' => e = .returned (.bool (decide (0 ≤ k ∧ k < (ls.length : Int)))) ∧ TrP wq bt O1 (if 0 ≤ k ∧ k < (ls.length : Int) then n else n + 12) (delM ls k) w') at hp1
  change ∀ (w2 : World), RT w2 br O2 ls → Calls _ _ _ _ (fun e w' => e = .returned (.bool (decide (0 ≤ k ∧ k < (ls.length : Int)))) ∧ RTP w2 br O2 (delM ls k) w') at hp2
  obtain ⟨M, hM⟩ : ∃ M, delM ls k = M := ⟨_, rfl⟩
  obtain ⟨ok, hok⟩ : ∃ ok, decide (0 ≤ k ∧ k < (ls.length : Int)) = ok := ⟨_, rfl⟩
  rw [hM, hok] at hp1 hp2
  have HM : Hid (delM ls (max oi 0 % ((ls.length : Int) + 1)) = M) := Lib.hid (by rw [HK.out]; exact hM)
  have H1 : Hid (Calls Try.prog 21 #[.pointer (some ⟨bt, 0, none⟩), .int .i64 k] wq fun e w' => e = .returned (.bool ok) ∧ TrP wq bt O1 (n + 24 * 51) M w') := Lib.hid (hp1.mono (fun e w' ⟨q1, q2⟩ => ⟨q1, q2.mono (by split <;> omega)⟩))
  have H2 := Lib.hid hp2
  clear hp1 hp2 hM hok hk hmod gs gn c1 c2 c3 c4 hq
  go_wp2_with (first
    | (go_at_call 21; refine H1.out.mono ?_; rintro e w2 ⟨rfl, hp2⟩; have HP2 := Lib.hid hp2; clear hp2)
    | (go_at_call 38; refine (H2.out _ (HBQ.out.2.1.upd (by { obtain ⟨_, _, q, _⟩ := HP2.out; exact q }) (fun k hk e => HBQ.out.2.2 k e hk))).mono ?_; rintro e w3 ⟨rfl, hp3⟩; have HP3 := Lib.hid hp3; clear hp3))
  go_ret
  exact ⟨by simp, by rw [HM.out]; exact BothP.then (HUQ.out.mono (fun _ _ e => e.elim)) (fun _ e => .inl e) (fun _ e => .inl e) (BothP.of HBQ.out HP2.out (fun _ => HP3.out))⟩
/-- What a call makes of the lines. -/
def opM (o : OpD) (ls : List ByteArray) : List ByteArray :=
  if o.kind % 10 = 3 ∨ o.kind % 10 = 4 then delM ls o.i
  else if o.kind % 10 = 5 then setM ls o.i o.s
  else if o.kind % 10 = 6 then splM ls o.i o.n o.l
  else if o.kind % 10 = 7 ∨ o.kind % 10 = 8 then ls
  else if o.kind % 10 = 9 then delM ls (max o.i 0 % ((ls.length : Int) + 1))
  else insM ls o.i o.s
theorem does_any {w : World} {bt br : Nat} {O1 O2 : Nat → Prop} {n : Nat} {ls : List ByteArray} (h : Both w bt br O1 O2 n ls) (hn : n + 24 * 52 ≤ 600000) (o : OpD) (v : Value) (hok : o.ok) (h50 : o.l.length ≤ 50) {F : Nat → Prop} (hv : Rds F w v o.l) (hd : ∀ k, F k → ¬ (O1 k ∨ O2 k)) :
    Calls Try.prog 25 #[.pointer (some ⟨bt, 0, none⟩), .pointer (some ⟨br, 0, none⟩), .agg (opC o v)] w (DoesP w bt br O1 O2 (n + 24 * 51) (opM o ls)) := by
  obtain ⟨K, hK⟩ : ∃ K, o.kind % 10 = K := ⟨_, rfl⟩
  have hr : 0 ≤ K ∧ K < 10 := by omega
  unfold opM
  rw [hK]
  have hc : K = 0 ∨ K = 1 ∨ K = 2 ∨ K = 3 ∨ K = 4 ∨ K = 5 ∨ K = 6 ∨ K = 7 ∨ K = 8 ∨ K = 9 := by omega
  rcases hc with rfl | rfl | rfl | rfl | rfl | rfl | rfl | rfl | rfl | rfl
  · exact does_ins0 h hn o v hK hok h50 hv hd
  · exact does_ins1 h hn o v hK hok h50 hv hd
  · exact does_ins2 h hn o v hK hok h50 hv hd
  · exact does_del3 h hn o v hK hok h50 hv hd
  · exact does_del4 h hn o v hK hok h50 hv hd
  · exact does_set h hn o v hK hok h50 hv hd
  · exact does_splice h hn o v hK hok h50 hv hd
  · exact does_get h hn o v hK hok h50 hv hd
  · exact does_part h hn o v hK hok h50 hv hd
  · exact does_mod h hn o v hK hok h50 hv hd
end Go.Proofs.Ytmklapbecdhnmaa
namespace Go.Proofs.Ytmklapbecdhnmaa
open Go.RowKit
def heavyM (n : Nat) (ts : List OpD) : Bool := decide (300 < n ∨ 200 < ts.length ∨ ∃ t ∈ ts, 50 < t.l.length)
theorem heavy_no {n : Nat} {ts : List OpD} (h : heavyM n ts = false) : n ≤ 300 ∧ ts.length ≤ 200 ∧ ∀ t ∈ ts, t.l.length ≤ 50 := by
  have := of_decide_eq_false h
  refine ⟨by omega, by omega, fun t ht => ?_⟩
  rcases Nat.lt_or_ge 50 t.l.length with e | e
  · exact absurd (.inr (.inr ⟨t, ht, e⟩)) this
  · exact e
theorem heavy_any {w : World} (la : Option Addr) (lc n : Nat) (oa : Option Addr) (oc : Nat) (ts : List OpD) (ho : OpsIn w oa ts) (hn : (n : Int) ≤ 9223372036854775807) :
    Calls Try.prog 23 #[.slice la n lc, .slice oa ts.length oc] w fun e w' => e = .returned (.bool (heavyM n ts)) ∧ From w w' := by
  obtain ⟨h1, h2, h3⟩ := ho
  have H3 := Lib.hid h3
  obtain ⟨m, hm⟩ : ∃ m, ts.length = m := ⟨_, rfl⟩
  rw [hm] at h1 ⊢
  have HM := Lib.hid hm
  by_cases q1 : 300 < n
  · have HE : Hid (heavyM n ts = true) := Lib.hid (decide_eq_true (.inl q1))
    rw [HE.out]
    clear h2 h3 hm
    go_enter Try.func23, Try.ntmps23
    go_wp2
    go_ret
    exact ⟨rfl, From.refl _⟩
  by_cases q2 : 200 < m
  · have HE : Hid (heavyM n ts = true) := Lib.hid (decide_eq_true (.inr (.inl (by rw [hm]; exact q2))))
    rw [HE.out]
    clear h2 h3 hm
    go_enter Try.func23, Try.ntmps23
    go_wp2
    go_ret
    exact ⟨rfl, From.refl _⟩
  have HT : Hid ((∃ t ∈ ts, 50 < t.l.length) → heavyM n ts = true) := Lib.hid (fun e => decide_eq_true (.inr (.inr e)))
  have HF : Hid ((∀ t ∈ ts, t.l.length ≤ 50) → heavyM n ts = false) := Lib.hid (fun e => decide_eq_false (by
    rw [hm]
    rintro (a | a | ⟨t, ht, a⟩)
    · exact q1 a
    · exact q2 a
    · have := e t ht; omega))
  obtain ⟨R, hR⟩ : ∃ R, heavyM n ts = R := ⟨_, rfl⟩
  rw [hR] at HT HF ⊢
  clear h2 h3 hm hR
  go_enter Try.func23, Try.ntmps23
  go_wp2
  go_loopg [5] m (fun gk iv wr => ∃ j : Nat, iv = .int .i64 (j : Int) ∧ j + gk = m ∧ Hid (From w wr) ∧ Hid (∀ t ∈ ts.take j, t.l.length ≤ 50))
  case atStart => exact ⟨0, rfl, by omega, Lib.hid (From.refl _), Lib.hid (fun t ht => by simp at ht)⟩
  case round =>
    obtain ⟨j, rfl, hgk, HW, HA⟩ := hrel
    by_cases hlt : j < m
    · have hj : j < ts.length := by rw [HM.out]; exact hlt
      obtain ⟨b, o, v, rfl, _, _, _, _, _, e4, hr⟩ := H3.out j hj
      obtain ⟨va, vc, rfl, _⟩ := hr
      have e4' := (false_upd2 HW.out).cell e4 (fun e => e)
      have HTJ : Hid (50 < ts[j].l.length → R = true) := Lib.hid (fun e => HT.out ⟨_, List.getElem_mem hj, e⟩)
      have HAJ : Hid (ts[j].l.length ≤ 50 → ∀ t ∈ ts.take (j + 1), t.l.length ≤ 50) := Lib.hid (fun e t ht => by
        rw [← List.take_append_getElem hj] at ht
        rcases List.mem_append.1 ht with q | q
        · exact HA.out t q
        · rw [List.mem_singleton.1 q]; exact e)
      obtain ⟨k, hk⟩ : ∃ k, ts[j].l.length = k := ⟨_, rfl⟩
      rw [hk] at e4' HTJ HAJ
      clear e4 hk
      by_cases hbig : 50 < k
      · have HR := Lib.hid (HTJ.out hbig)
        go_wp2
        go_ret
        exact ⟨by rw [HR.out]; rfl, HW.out⟩
      · have HA2 := Lib.hid (HAJ.out (by omega))
        go_wp2
        go_roundg (gk - 1)
        case measure => omega
        case rel => exact ⟨j + 1, by go_num, by omega, HW, HA2⟩
    · obtain rfl : j = m := by omega
      have HR : Hid (R = false) := Lib.hid (HF.out (fun t ht => HA.out t (by rw [List.take_of_length_le (by rw [HM.out]; exact Nat.le_refl _)]; exact ht)))
      go_wp2
      go_ret
      exact ⟨by rw [HR.out]; rfl, HW.out⟩
end Go.Proofs.Ytmklapbecdhnmaa
namespace Go.Proofs.Ytmklapbecdhnmaa
open Go.RowKit
theorem lv_next {n : Nat} : ∀ (L : List (List Nat)), Lv n L → ∀ k (h : k + 1 < L.length), (L[k]'(by omega)).sum = L[k + 1].length ∧ ∀ x ∈ L[k + 1], 4 ≤ x ∧ x ≤ 8
  | [], h, _, _ => h.elim
  | [a], _, k, h => by simp at h
  | a :: b :: r, ⟨h1, h2, h3⟩, k, h => by
    cases k with
    | zero => exact ⟨h1, h2⟩
    | succ k => exact lv_next (b :: r) h3 k (by simpa using h)
theorem lv_last {n : Nat} : ∀ (L : List (List Nat)), Lv n L → ∀ k (h : k + 1 = L.length), (L[k]'(by omega)).sum = n
  | [], h, _, _ => h.elim
  | [a], h1, k, h => by
    have : k = 0 := by simpa using h
    subst this
    exact h1
  | a :: b :: r, ⟨h1, h2, h3⟩, k, h => by
    cases k with
    | zero => simp at h
    | succ k => exact lv_last (b :: r) h3 k (by simpa using h)
/-- What the law asks of each level. -/
structure Fits (n : Nat) (L : List (List Nat)) : Prop where
  pos : 0 < L.length
  one : ∀ h : 0 < L.length, L[0].length = 1
  each : ∀ k (h : k < L.length), ∀ x ∈ L[k], x ≤ 8 ∧ (0 < k → 4 ≤ x) ∧ (k = 0 → 1 < L.length → 2 ≤ x)
  next : ∀ k (h : k + 1 < L.length), (L[k]'(by omega)).sum = L[k + 1].length
  last : ∀ k (h : k + 1 = L.length), (L[k]'(by omega)).sum = n
theorem Told.fits {n : Nat} {L : List (List Nat)} (h : Told n L) : Fits n L := by
  obtain ⟨h1, x, r, rfl, h2, h3, _⟩ := h
  refine ⟨by simp, fun _ => rfl, fun k hk y hy => ?_, fun k hk => (lv_next _ h1 k hk).1, fun k hk => lv_last _ h1 k hk⟩
  cases k with
  | zero =>
    have : y = x := by simpa using hy
    subst this
    exact ⟨h2, fun e => absurd e (by omega), fun _ e => h3 (by intro e2; subst e2; simp at e)⟩
  | succ k =>
    have := (lv_next _ h1 k hk).2 y hy
    exact ⟨this.2, fun _ => this.1, fun e => by omega⟩
theorem sum_take (l : List Nat) (i : Nat) (h : i < l.length) : (l.take (i + 1)).sum = (l.take i).sum + l[i] := by
  have e : l.take (i + 1) = l.take i ++ [l[i]] := (List.take_append_getElem h).symm
  rw [e, List.sum_append]
  simp
theorem sum_take_le (l : List Nat) (i : Nat) : (l.take i).sum ≤ l.sum := by
  have : l.sum = (l.take i).sum + (l.drop i).sum := by rw [← List.sum_append, List.take_append_drop]
  omega
/-- The numbers at one level. -/
theorem Nest.at {w : World} {B : Nat} {a : Option Addr} {m c : Nat} {L : List (List Nat)} (h : Nest w B (.slice a m c) L) : m = L.length ∧ m ≤ maxLen ∧ ∀ k (hk : k < L.length), ∃ g ga gc, a = some ⟨g, 0, none⟩ ∧ w.cell? ⟨g, k, none⟩ = some (.slice ga L[k].length gc) ∧ L[k].length ≤ maxLen ∧ ∀ i (hi : i < L[k].length), ∃ b, ga = some ⟨b, 0, none⟩ ∧ w.cell? ⟨b, i, none⟩ = some (.int .i64 (L[k][i] : Int)) := by
  obtain ⟨vs, h1, h2, h3, _, _⟩ := h
  have hl := h1.len
  refine ⟨by omega, by omega, fun k hk => ?_⟩
  have hkv : k < vs.length := by omega
  obtain ⟨g, rfl⟩ := h1.addr (by omega)
  have e := h1.cells0 k _ (List.getElem?_eq_getElem hkv)
  have hr := h3 k _ _ (List.getElem?_eq_getElem hkv) (List.getElem?_eq_getElem hk)
  obtain ⟨ga, gc, eq⟩ := hr.form
  rw [show (natsC L[k]).length = L[k].length by simp [natsC]] at eq
  rw [eq] at e hr
  have hrl := hr.len
  refine ⟨g, ga, gc, rfl, by simpa using e, by omega, fun i hi => ?_⟩
  obtain ⟨b, rfl⟩ := hr.addr (by rw [natsC, List.length_map]; omega)
  refine ⟨b, rfl, ?_⟩
  have := hr.cells0 i (natV L[k][i]) (by rw [natsC, List.getElem?_map, List.getElem?_eq_getElem hi]; rfl)
  simpa [natV] using this
/-- One level, and the next. -/
theorem Nest.level {w : World} {B : Nat} {g m c n : Nat} {L : List (List Nat)} (h : Nest w B (.slice (some ⟨g, 0, none⟩) m c) L) (hf : Fits n L) (hn : n ≤ 1000000) (k : Nat) (hk : k < m) : ∃ (ga : Option Addr) (gc p : Nat) (l : List Nat), w.cell? ⟨g, k, none⟩ = some (.slice ga p gc) ∧ l.length = p ∧ p ≤ 9223372036854775807 ∧ (∀ i (hi : i < l.length), ∃ b, ga = some ⟨b, 0, none⟩ ∧ w.cell? ⟨b, i, none⟩ = some (.int .i64 (l[i] : Int))) ∧
    (∀ x ∈ l, x ≤ 8 ∧ (0 < k → 4 ≤ x) ∧ (k = 0 → 1 < m → 2 ≤ x)) ∧ (k + 1 < m → ∃ (gb : Option Addr) (gd : Nat), w.cell? ⟨g, k + 1, none⟩ = some (.slice gb l.sum gd)) ∧ (k + 1 = m → l.sum = n) ∧ l.sum ≤ 9223372036854775807 := by
  obtain ⟨h1, h2, h3⟩ := h.at
  have hk2 : k < L.length := by omega
  obtain ⟨g1, ga, gc, e1, ec, hle, hel⟩ := h3 k hk2
  injection e1 with e1
  injection e1 with e1
  subst e1
  unfold maxLen at hle
  have hnx : k + 1 < m → ∃ (gb : Option Addr) (gd : Nat), w.cell? ⟨g, k + 1, none⟩ = some (.slice gb (L[k]'hk2).sum gd) ∧ (L[k]'hk2).sum ≤ 9223372036854775807 := fun e => by
    obtain ⟨g2, gb, gd, e2, ed, hle2, _⟩ := h3 (k + 1) (by omega)
    injection e2 with e2
    injection e2 with e2
    subst e2
    rw [hf.next k (by omega)]
    unfold maxLen at hle2
    exact ⟨gb, gd, ed, by omega⟩
  have hl : k + 1 = m → (L[k]'hk2).sum = n := fun e => hf.last k (by omega)
  refine ⟨ga, gc, _, L[k], ec, rfl, by omega, hel, fun x hx => ?_, fun e => ?_, hl, ?_⟩
  · have := hf.each k hk2 x hx
    exact ⟨this.1, this.2.1, fun e1 e2 => this.2.2 e1 (by omega)⟩
  · obtain ⟨gb, gd, ed, _⟩ := hnx e
    exact ⟨gb, gd, ed⟩
  · rcases Nat.lt_or_ge (k + 1) m with q | q
    · obtain ⟨_, _, _, r⟩ := hnx q
      exact r
    · have := hl (by omega)
      omega
set_option maxRecDepth 100000 in
set_option maxHeartbeats 16000000 in
theorem shaped_any {w : World} {B : Nat} (v : Value) (L : List (List Nat)) (n : Nat) (hv : Nest w B v L) (hf : Fits n L) (hn : n ≤ 1000000) :
    Calls Try.prog 16 #[v, .int .i64 (n : Int)] w fun e w' => e = .returned (.bool true) ∧ From w w' := by
  obtain ⟨vs, hrow, _⟩ := id hv
  obtain ⟨a, c, rfl⟩ := hrow.form
  obtain ⟨hm1, hm2, hcell⟩ := hv.at
  obtain ⟨m, hm⟩ : ∃ m, vs.length = m := ⟨_, rfl⟩
  rw [hm] at hm1 hm2 hv ⊢
  have hpos : 0 < m := by rw [hm1]; exact hf.pos
  obtain ⟨g, ga0, gc0, rfl, e0, hx1, hx2⟩ := hcell 0 hf.pos
  rw [hf.one hf.pos] at e0
  clear hx1 hx2
  have HLV := Lib.hid (fun k hk => hv.level hf hn k hk)
  have hne : ((m : Int) == 0) = false := by simp; omega
  unfold maxLen at hm2
  clear hrow hm hm1 hv hf hcell
  go_enter Try.func16, Try.ntmps16
  go_wp2
  clear e0
  go_loopg [5] m (fun gk iv wr => ∃ k : Nat, iv = .int .i64 (k : Int) ∧ k + gk = m ∧ Hid (From w wr))
  case atStart => exact ⟨0, rfl, by omega, Lib.hid (From.refl _)⟩
  case round =>
    obtain ⟨k, rfl, hgk, HW⟩ := hrel
    by_cases hlt : k < m
    · obtain ⟨gz, hgz⟩ : ∃ gz, gk = gz + 1 := ⟨gk - 1, by omega⟩
      subst hgz
      obtain ⟨ga, gc, p, l, ec, hp, hle, hel, hE, hNx, hLs, hsb⟩ := HLV.out k hlt
      have HEL := Lib.hid hel
      have HEA := Lib.hid hE
      have HNX := Lib.hid hNx
      have HLS := Lib.hid hLs
      have HP := Lib.hid hp
      have HSB := Lib.hid hsb
      have ec' := (false_upd2 HW.out).cell ec (fun e => e)
      have HEC := Lib.hid ec
      clear hel hE hNx hLs hp ec
      go_wp2
      have HW1 := HW
      clear HW ec'
      go_loopg [6, 7] p (fun gk sv iv wr => ∃ i : Nat, iv = .int .i64 (i : Int) ∧ i + gk = p ∧ Hid (From w wr) ∧ sv = .int .i64 ((l.take i).sum : Int))
      case atStart => exact ⟨0, rfl, by omega, HW1, rfl⟩
      case round =>
        obtain ⟨i, rfl, hgi, HW, rfl⟩ := hrel
        have ec' := (false_upd2 HW.out).cell (show w.cell? ⟨g, k, none⟩ = some (.slice ga p gc) from HEC.out) (fun e => e)
        by_cases hlt2 : i < p
        · have hil : i < l.length := by rw [HP.out]; exact hlt2
          obtain ⟨b, rfl, eb⟩ := HEL.out i hil
          have eb' := (false_upd2 HW.out).cell eb (fun e => e)
          obtain ⟨q1, q2, q3⟩ := HEA.out l[i] (List.getElem_mem hil)
          have HST : Hid ((l.take (i + 1)).sum = (l.take i).sum + l[i]) := Lib.hid (sum_take l i hil)
          have hst := sum_take_le l (i + 1)
          rw [HST.out] at hst
          have hs2 := HSB.out
          obtain ⟨x, hx⟩ : ∃ x, l[i] = x := ⟨_, rfl⟩
          rw [hx] at eb' q1 q2 q3 HST hst
          obtain ⟨s, hs⟩ : ∃ s, (l.take i).sum = s := ⟨_, rfl⟩
          rw [hs] at HST hst ⊢
          have gs : IntKind.i64.wrap ((s : Int) + (x : Int)) = ((s + x : Nat) : Int) := by rw [IntWalk.i64_in _ (by omega)]; omega
          have gk1 : IntKind.i64.wrap ((k : Int) + 1) = (k : Int) + 1 := IntWalk.i64_in _ (by omega)
          have n8 : ¬ 8 < x := by omega
          clear eb hx hs
          by_cases hk0 : k = 0
          · have z1 : ¬ 0 < k := by omega
            have z2 : ((k : Int) == 0) = true := by simp; exact hk0
            by_cases hm1 : k + 1 < m
            · have n2 : ¬ x < 2 := by have := q3 hk0 (by omega); omega
              clear hk0 q2 q3
              go_wp2
              go_roundg (gk - 1)
              case measure => omega
              case rel => exact ⟨i + 1, by go_num, by omega, HW, by rw [HST.out, Int.natCast_add]⟩
            · have hm2i : ¬ ((k : Int) + 1 < (m : Int)) := by omega
              clear hk0 q2 q3
              go_wp2
              go_roundg (gk - 1)
              case measure => omega
              case rel => exact ⟨i + 1, by go_num, by omega, HW, by rw [HST.out, Int.natCast_add]⟩
          · have z1 : 0 < k := by omega
            have z2 : ((k : Int) == 0) = false := by simp; exact hk0
            have n4 : ¬ x < 4 := by have := q2 z1; omega
            clear hk0 q2 q3
            go_wp2
            go_roundg (gk - 1)
            case measure => omega
            case rel => exact ⟨i + 1, by go_num, by omega, HW, by rw [HST.out, Int.natCast_add]⟩
        · obtain rfl : i = p := by omega
          have HE : Hid ((l.take i).sum = l.sum) := Lib.hid (by rw [List.take_of_length_le (by rw [HP.out]; exact Nat.le_refl _)])
          rw [HE.out]
          have gk1 : IntKind.i64.wrap ((k : Int) + 1) = (k : Int) + 1 := IntWalk.i64_in _ (by omega)
          have hs2 := HSB.out
          by_cases hm1 : k + 1 < m
          · obtain ⟨gb, gd, ed⟩ := HNX.out hm1
            have ed' := (false_upd2 HW.out).cell ed (fun e => e)
            have z3 : ((k : Int) + 1 == (m : Int)) = false := by simp; omega
            obtain ⟨s, hs⟩ : ∃ s, l.sum = s := ⟨_, rfl⟩
            rw [hs] at ed' hs2 ⊢
            clear ed hs
            go_wp2
            go_roundg gz
            case measure => omega
            case rel => exact ⟨k + 1, by go_num, by omega, HW⟩
          · have hm2i : ¬ ((k : Int) + 1 < (m : Int)) := by omega
            have z3 : ((k : Int) + 1 == (m : Int)) = true := by simp; omega
            have HLn := HLS.out (by omega)
            rw [HLn] at hs2 ⊢
            go_wp2
            go_roundg gz
            case measure => omega
            case rel => exact ⟨k + 1, by go_num, by omega, HW⟩
    · obtain rfl : k = m := by omega
      go_wp2
      go_ret
      exact ⟨rfl, HW.out⟩
end Go.Proofs.Ytmklapbecdhnmaa
