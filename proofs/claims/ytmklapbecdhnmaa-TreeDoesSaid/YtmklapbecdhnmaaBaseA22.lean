/- Lemmas that the law's proof stands on, part 22: Tvm. No condition. -/
import Derived.Test.YtmklapbecdhnmaaBaseA0
import Derived.Test.YtmklapbecdhnmaaBaseA21
set_option linter.all false
set_option linter.unusedVariables false
set_option linter.unusedSimpArgs false
namespace Go.Proofs.Ytmklapbecdhnmaa
open Go.RowKit
/-- Both trees, apart. -/
def Both (w : World) (bt br : Nat) (O1 O2 : Nat → Prop) (n : Nat) (ls : List ByteArray) : Prop := Tr w bt O1 n ls ∧ RT w br O2 ls ∧ ∀ k, O1 k → ¬ O2 k
def BothP (w : World) (bt br : Nat) (O1 O2 : Nat → Prop) (n : Nat) (ls : List ByteArray) (w' : World) : Prop := ∃ O1' O2', Both w' bt br O1' O2' n ls ∧ Upd (fun k => O1 k ∨ O2 k) w w' ∧ (∀ k, O1' k → O1 k ∨ w.heap.size ≤ k) ∧ ∀ k, O2' k → O2 k ∨ w.heap.size ≤ k
theorem Both.upd {F : Nat → Prop} {w w' : World} {bt br : Nat} {O1 O2 : Nat → Prop} {n : Nat} {ls : List ByteArray} (h : Both w bt br O1 O2 n ls) (hu : Upd F w w') (h1 : ∀ k, O1 k → ¬ F k) (h2 : ∀ k, O2 k → ¬ F k) : Both w' bt br O1 O2 n ls := ⟨h.1.upd hu h1, h.2.1.upd hu h2, h.2.2⟩
theorem Both.newer {w w' : World} {bt br : Nat} {O1 O2 : Nat → Prop} {n : Nat} {ls : List ByteArray} (h : Both w bt br O1 O2 n ls) (hu : Upd (fun _ => False) w w') : Both w' bt br O1 O2 n ls := h.upd hu (fun _ _ e => e) (fun _ _ e => e)
/-- A call on the one, and then on the other. -/
theorem BothP.of {w w1 w2 : World} {bt br : Nat} {O1 O2 : Nat → Prop} {n n' : Nat} {ls ls' : List ByteArray} (h : Both w bt br O1 O2 n ls) (h1 : TrP w bt O1 n' ls' w1) (h2 : RT w1 br O2 ls → RTP w1 br O2 ls' w2) : BothP w bt br O1 O2 n' ls' w2 := by
  obtain ⟨O1', a1, a2, a3⟩ := h1
  have hr : RT w1 br O2 ls := h.2.1.upd a2 (fun k hk e => h.2.2 k e hk)
  obtain ⟨O2', b1, b2, b3⟩ := h2 hr
  have ha : ∀ k, O1' k → ¬ O2 k := fun k hk ho => by
    rcases a3 k hk with e | e
    · exact h.2.2 k e ho
    · have := h.2.1.lt ho; omega
  refine ⟨O1', O2', ⟨a1.upd b2 ha, b1, fun k hk ho => ?_⟩, (a2.mono (fun k _ e => .inl e)).then b2 (fun k _ e => .inr e), a3, fun k hk => ?_⟩
  · rcases b3 k ho with e | e
    · exact ha k hk e
    · have := a1.lt hk; omega
  · rcases b3 k hk with e | e
    · exact .inl e
    · right; have := a2.size; omega
theorem BothP.then {w w1 w2 : World} {bt br : Nat} {O1 O2 O1' O2' : Nat → Prop} {n : Nat} {ls : List ByteArray} (hu : Upd (fun k => O1 k ∨ O2 k) w w1) (g1 : ∀ k, O1' k → O1 k ∨ w.heap.size ≤ k) (g2 : ∀ k, O2' k → O2 k ∨ w.heap.size ≤ k) (h : BothP w1 bt br O1' O2' n ls w2) : BothP w bt br O1 O2 n ls w2 := by
  obtain ⟨P1, P2, a1, a2, a3, a4⟩ := h
  refine ⟨P1, P2, a1, hu.then a2 (fun i hi ho => ?_), fun k hk => ?_, fun k hk => ?_⟩
  · rcases ho with e | e
    · rcases g1 i e with q | q
      · exact .inl q
      · omega
    · rcases g2 i e with q | q
      · exact .inr q
      · omega
  · rcases a3 k hk with e | e
    · exact g1 k e
    · right; have := hu.size; omega
  · rcases a4 k hk with e | e
    · exact g2 k e
    · right; have := hu.size; omega
theorem BothP.mono {w w' : World} {bt br : Nat} {O1 O2 : Nat → Prop} {n m : Nat} {ls : List ByteArray} (h : BothP w bt br O1 O2 n ls w') (hm : n ≤ m) : BothP w bt br O1 O2 m ls w' := by
  obtain ⟨P1, P2, a1, a2, a3, a4⟩ := h
  exact ⟨P1, P2, ⟨a1.1.mono hm, a1.2⟩, a2, a3, a4⟩
theorem BothP.refl {w w' : World} {bt br : Nat} {O1 O2 : Nat → Prop} {n : Nat} {ls : List ByteArray} (h : Both w bt br O1 O2 n ls) (hu : Upd (fun _ => False) w w') : BothP w bt br O1 O2 n ls w' := ⟨O1, O2, h.newer hu, hu.mono (fun _ _ e => e.elim), fun _ e => .inl e, fun _ e => .inl e⟩
def delM (ls : List ByteArray) (i : Int) : List ByteArray := if 0 ≤ i ∧ i < (ls.length : Int) then delL ls i.toNat else ls
def setM (ls : List ByteArray) (i : Int) (x : ByteArray) : List ByteArray := if 0 ≤ i ∧ i < (ls.length : Int) then ls.set i.toNat x else ls
def insM (ls : List ByteArray) (i : Int) (x : ByteArray) : List ByteArray := if 0 ≤ i ∧ i ≤ (ls.length : Int) then insL ls i.toNat x else ls
def splM (ls : List ByteArray) (i k : Int) (new : List ByteArray) : List ByteArray := if 0 ≤ i ∧ 0 ≤ k ∧ i + k ≤ (ls.length : Int) then spliceL ls i.toNat k.toNat new else ls
def opC (o : OpD) (v : Value) : Array Value := #[.int .u8 o.kind, .int .i64 o.i, .int .i64 o.n, .string o.s, v]
def DoesP (w : World) (bt br : Nat) (O1 O2 : Nat → Prop) (n : Nat) (ls : List ByteArray) (e : Ending) (w' : World) : Prop := e = .returned (.bool true) ∧ BothP w bt br O1 O2 n ls w'
set_option maxRecDepth 100000 in
set_option maxHeartbeats 16000000 in
theorem does_del3 {w : World} {bt br : Nat} {O1 O2 : Nat → Prop} {n : Nat} {ls : List ByteArray} (h : Both w bt br O1 O2 n ls) (hn : n + 24 * 52 ≤ 600000) (o : OpD) (v : Value) (hk : o.kind % 10 = 3) (hok : o.ok) (h50 : o.l.length ≤ 50) {F : Nat → Prop} (hv : Rds F w v o.l) (hd : ∀ k, F k → ¬ (O1 k ∨ O2 k)) :
    Calls Try.prog 25 #[.pointer (some ⟨bt, 0, none⟩), .pointer (some ⟨br, 0, none⟩), .agg (opC o v)] w (DoesP w bt br O1 O2 (n + 24 * 51) (delM ls o.i)) := by
  obtain ⟨kind, oi, on, os, ol⟩ := o
  unfold opC
  unfold OpD.ok at hok
  simp only [] at hk hok h50 hv ⊢
  obtain ⟨⟨k0, k255⟩, hoi, hon, hos, hol⟩ := hok
  have hfew := h.1.few
  obtain ⟨M, hM⟩ : ∃ M, delM ls oi = M := ⟨_, rfl⟩
  obtain ⟨ok, HC1, HC2⟩ : ∃ ok : Bool, Hid (∀ w2, Upd (fun k => O1 k ∨ O2 k) w w2 → Tr w2 bt O1 n ls → Calls Try.prog 21 #[.pointer (some ⟨bt, 0, none⟩), .int .i64 oi] w2 fun e w' => e = .returned (.bool ok) ∧ TrP w2 bt O1 (n + 24 * 51) M w') ∧ Hid (∀ w2, Upd (fun k => O1 k ∨ O2 k) w w2 → RT w2 br O2 ls → Calls Try.prog 38 #[.pointer (some ⟨br, 0, none⟩), .int .i64 oi] w2 fun e w' => e = .returned (.bool ok) ∧ RTP w2 br O2 M w') := by
    rw [← hM]
    refine ⟨decide (0 ≤ oi ∧ oi < (ls.length : Int)), Lib.hid fun w2 hu ht => ?_, Lib.hid fun w2 hu hr => ?_⟩
    · refine (Delete_tr ht (by omega) oi).mono ?_
      rintro e w' ⟨rfl, hp⟩
      exact ⟨rfl, TrP.mono hp (by split <;> omega)⟩
    · exact RDelete_any hr oi
  rw [hM]
  clear hM hv hd hol
  have HB0 := Lib.hid h
  clear h
  obtain ⟨K, hK⟩ : ∃ K, kind % 10 = K := ⟨_, rfl⟩
  rw [hK] at hk
  go_enter Try.func25, Try.ntmps25
  go_upto_region 2 with (first
    | ((with_reducible refine stopBx 50 _ rfl ?_); unfold Stop; refine wpList_box_blk rfl 50 _ rfl _ (by go_simp; first | done | exact rfl) #[.int .u8 kind, .int .i64 oi, .int .i64 on, .string os, v] rfl ?_; intro bO w1 hbO kO hu1 hs1; have c0 := cell_of kO 0 (v := .int .u8 kind) rfl; have c1 := cell_of kO 1 (v := .int .i64 oi) rfl; have c2 := cell_of kO 2 (v := .int .i64 on) rfl; have c3 := cell_of kO 3 (v := .string os) rfl; have c4 := cell_of kO 4 (v := v) rfl))
  rw [hK]
  subst hk
  clear c0 hK
  have HU1 := Lib.hid hu1
  have HBn : Hid (¬ (O1 bO ∨ O2 bO)) := Lib.hid (fun e => by
    rcases e with e | e
    · have := HB0.out.1.lt e; omega
    · have := HB0.out.2.1.lt e; omega)
  clear hu1 hs1 hbO kO
  go_wp2
  obtain ⟨wd, hwd⟩ : ∃ wd, w1.drew = wd := ⟨_, rfl⟩
  have HUD : Hid (Upd (fun _ => False) w wd) := Lib.hid (by rw [← hwd]; exact HU1.out.drew)
  have HBD := Lib.hid (HB0.out.newer HUD.out)
  replace c1 : wd.cell? ⟨bO, 1, none⟩ = some (.int .i64 oi) := by rw [← hwd]; exact c1
  replace c2 : wd.cell? ⟨bO, 2, none⟩ = some (.int .i64 on) := by rw [← hwd]; exact c2
  replace c3 : wd.cell? ⟨bO, 3, none⟩ = some (.string os) := by rw [← hwd]; exact c3
  replace c4 : wd.cell? ⟨bO, 4, none⟩ = some v := by rw [← hwd]; exact c4
  refine wp_region_seq (fun v => Upd (fun k => O1 k ∨ O2 k) wd v) (fun i => i != 99) [(0, true), (1, true), (2, true), (4, true), (5, true), (6, true), (3, false), (7, false), (8, true), (9, true)] (by exact rfl) (by kernel_rfl) (by intro c a d v w h; cases d <;> exact h) ?_
  rw [hwd]; have hS : Upd (fun k => O1 k ∨ O2 k) wd wd := Upd.refl _ _
  iterate 6 (((apply seq_val2 rfl (by rfl); (focus (intro w' hS'; have s1 := hS'.cell c1 HBn.out; have s2 := hS'.cell c2 HBn.out; have s3 := hS'.cell c3 HBn.out; have s4 := hS'.cell c4 HBn.out; go_simp; (first | done | exact rfl | (rw [if_pos (by omega)]; done)))); (focus exact hS))); (try simp only [Act.put, zzT, zzO, zzS]))
  apply seq_call2 (fun v w' => v = .bool ok ∧ TrP wd bt O1 (n + 24 * 51) M w') rfl (by rfl)
  focus (go_simp; (first | done | exact rfl | exact ⟨rfl, rfl⟩))
  focus (refine (HC1.out wd (HUD.out.mono (fun _ _ e => e.elim)) HBD.out.1).mono ?_; rintro e w' ⟨rfl, hp⟩; exact ⟨_, rfl, rfl, hp⟩)
  rintro x w2 ⟨rfl, hp2⟩; have HP2 := Lib.hid hp2; have hS2 : Upd (fun k => O1 k ∨ O2 k) wd w2 := by { obtain ⟨_, _, q, _⟩ := hp2; exact q.mono (fun _ _ e => .inl e) }; clear hS hp2; have hS := hS2; clear hS2; have HS2 := Lib.hid hS; refine ⟨fun _ => hS, ?_⟩
  (try simp only [Act.put, zzT, zzO, zzS])
  apply seq_call2 (fun v w' => v = .bool ok ∧ BothP wd bt br O1 O2 (n + 24 * 51) M w') rfl (by rfl)
  focus (go_simp; (first | done | exact rfl | exact ⟨rfl, rfl⟩))
  focus (refine (HC2.out w2 ((HUD.out.mono (fun _ _ e => e.elim)).then HS2.out (fun _ _ e => e)) (HBD.out.2.1.upd (by { obtain ⟨_, _, q, _⟩ := HP2.out; exact q }) (fun k hk e => HBD.out.2.2 k e hk))).mono ?_; rintro e w' ⟨rfl, hp⟩; exact ⟨_, rfl, rfl, BothP.of HBD.out HP2.out (fun _ => hp)⟩)
  rintro x w3 ⟨rfl, hp3⟩; have HP3 := Lib.hid hp3; have hS2 : Upd (fun k => O1 k ∨ O2 k) wd w3 := by { obtain ⟨_, _, _, q, _⟩ := hp3; exact q }; clear hS hp3; have hS := hS2; clear hS2; refine ⟨fun _ => hS, ?_⟩
  (try simp only [Act.put, zzT, zzO, zzS])
  iterate 2 (((apply seq_val2 rfl (by rfl); (focus (intro w' hS'; have s1 := hS'.cell c1 HBn.out; have s2 := hS'.cell c2 HBn.out; have s3 := hS'.cell c3 HBn.out; have s4 := hS'.cell c4 HBn.out; go_simp; (first | done | exact rfl | (rw [if_pos (by omega)]; done)))); (focus exact hS))); (try simp only [Act.put, zzT, zzO, zzS]))
  refine seq_nil ?_
  have HFin : Hid (BothP w bt br O1 O2 (n + 24 * 51) M w3) := Lib.hid (BothP.then (HUD.out.mono (fun _ _ e => e.elim)) (fun _ e => .inl e) (fun _ e => .inl e) HP3.out)
  clear hS c1 c2 c3 c4
  go_wp2
  go_ret
  exact ⟨by simp, HFin.out⟩
set_option maxRecDepth 100000 in
set_option maxHeartbeats 16000000 in
theorem does_del4 {w : World} {bt br : Nat} {O1 O2 : Nat → Prop} {n : Nat} {ls : List ByteArray} (h : Both w bt br O1 O2 n ls) (hn : n + 24 * 52 ≤ 600000) (o : OpD) (v : Value) (hk : o.kind % 10 = 4) (hok : o.ok) (h50 : o.l.length ≤ 50) {F : Nat → Prop} (hv : Rds F w v o.l) (hd : ∀ k, F k → ¬ (O1 k ∨ O2 k)) :
    Calls Try.prog 25 #[.pointer (some ⟨bt, 0, none⟩), .pointer (some ⟨br, 0, none⟩), .agg (opC o v)] w (DoesP w bt br O1 O2 (n + 24 * 51) (delM ls o.i)) := by
  obtain ⟨kind, oi, on, os, ol⟩ := o
  unfold opC
  unfold OpD.ok at hok
  simp only [] at hk hok h50 hv ⊢
  obtain ⟨⟨k0, k255⟩, hoi, hon, hos, hol⟩ := hok
  have hfew := h.1.few
  obtain ⟨M, hM⟩ : ∃ M, delM ls oi = M := ⟨_, rfl⟩
  obtain ⟨ok, HC1, HC2⟩ : ∃ ok : Bool, Hid (∀ w2, Upd (fun k => O1 k ∨ O2 k) w w2 → Tr w2 bt O1 n ls → Calls Try.prog 21 #[.pointer (some ⟨bt, 0, none⟩), .int .i64 oi] w2 fun e w' => e = .returned (.bool ok) ∧ TrP w2 bt O1 (n + 24 * 51) M w') ∧ Hid (∀ w2, Upd (fun k => O1 k ∨ O2 k) w w2 → RT w2 br O2 ls → Calls Try.prog 38 #[.pointer (some ⟨br, 0, none⟩), .int .i64 oi] w2 fun e w' => e = .returned (.bool ok) ∧ RTP w2 br O2 M w') := by
    rw [← hM]
    refine ⟨decide (0 ≤ oi ∧ oi < (ls.length : Int)), Lib.hid fun w2 hu ht => ?_, Lib.hid fun w2 hu hr => ?_⟩
    · refine (Delete_tr ht (by omega) oi).mono ?_
      rintro e w' ⟨rfl, hp⟩
      exact ⟨rfl, TrP.mono hp (by split <;> omega)⟩
    · exact RDelete_any hr oi
  rw [hM]
  clear hM hv hd hol
  have HB0 := Lib.hid h
  clear h
  obtain ⟨K, hK⟩ : ∃ K, kind % 10 = K := ⟨_, rfl⟩
  rw [hK] at hk
  go_enter Try.func25, Try.ntmps25
  go_upto_region 2 with (first
    | ((with_reducible refine stopBx 50 _ rfl ?_); unfold Stop; refine wpList_box_blk rfl 50 _ rfl _ (by go_simp; first | done | exact rfl) #[.int .u8 kind, .int .i64 oi, .int .i64 on, .string os, v] rfl ?_; intro bO w1 hbO kO hu1 hs1; have c0 := cell_of kO 0 (v := .int .u8 kind) rfl; have c1 := cell_of kO 1 (v := .int .i64 oi) rfl; have c2 := cell_of kO 2 (v := .int .i64 on) rfl; have c3 := cell_of kO 3 (v := .string os) rfl; have c4 := cell_of kO 4 (v := v) rfl))
  rw [hK]
  subst hk
  clear c0 hK
  have HU1 := Lib.hid hu1
  have HBn : Hid (¬ (O1 bO ∨ O2 bO)) := Lib.hid (fun e => by
    rcases e with e | e
    · have := HB0.out.1.lt e; omega
    · have := HB0.out.2.1.lt e; omega)
  clear hu1 hs1 hbO kO
  go_wp2
  obtain ⟨wd, hwd⟩ : ∃ wd, w1.drew = wd := ⟨_, rfl⟩
  have HUD : Hid (Upd (fun _ => False) w wd) := Lib.hid (by rw [← hwd]; exact HU1.out.drew)
  have HBD := Lib.hid (HB0.out.newer HUD.out)
  replace c1 : wd.cell? ⟨bO, 1, none⟩ = some (.int .i64 oi) := by rw [← hwd]; exact c1
  replace c2 : wd.cell? ⟨bO, 2, none⟩ = some (.int .i64 on) := by rw [← hwd]; exact c2
  replace c3 : wd.cell? ⟨bO, 3, none⟩ = some (.string os) := by rw [← hwd]; exact c3
  replace c4 : wd.cell? ⟨bO, 4, none⟩ = some v := by rw [← hwd]; exact c4
  refine wp_region_seq (fun v => Upd (fun k => O1 k ∨ O2 k) wd v) (fun i => i != 99) [(0, true), (1, true), (2, true), (4, true), (5, true), (6, true), (3, false), (7, false), (8, true), (9, true)] (by exact rfl) (by kernel_rfl) (by intro c a d v w h; cases d <;> exact h) ?_
  rw [hwd]; have hS : Upd (fun k => O1 k ∨ O2 k) wd wd := Upd.refl _ _
  iterate 6 (((apply seq_val2 rfl (by rfl); (focus (intro w' hS'; have s1 := hS'.cell c1 HBn.out; have s2 := hS'.cell c2 HBn.out; have s3 := hS'.cell c3 HBn.out; have s4 := hS'.cell c4 HBn.out; go_simp; (first | done | exact rfl | (rw [if_pos (by omega)]; done)))); (focus exact hS))); (try simp only [Act.put, zzT, zzO, zzS]))
  apply seq_call2 (fun v w' => v = .bool ok ∧ TrP wd bt O1 (n + 24 * 51) M w') rfl (by rfl)
  focus (go_simp; (first | done | exact rfl | exact ⟨rfl, rfl⟩))
  focus (refine (HC1.out wd (HUD.out.mono (fun _ _ e => e.elim)) HBD.out.1).mono ?_; rintro e w' ⟨rfl, hp⟩; exact ⟨_, rfl, rfl, hp⟩)
  rintro x w2 ⟨rfl, hp2⟩; have HP2 := Lib.hid hp2; have hS2 : Upd (fun k => O1 k ∨ O2 k) wd w2 := by { obtain ⟨_, _, q, _⟩ := hp2; exact q.mono (fun _ _ e => .inl e) }; clear hS hp2; have hS := hS2; clear hS2; have HS2 := Lib.hid hS; refine ⟨fun _ => hS, ?_⟩
  (try simp only [Act.put, zzT, zzO, zzS])
  apply seq_call2 (fun v w' => v = .bool ok ∧ BothP wd bt br O1 O2 (n + 24 * 51) M w') rfl (by rfl)
  focus (go_simp; (first | done | exact rfl | exact ⟨rfl, rfl⟩))
  focus (refine (HC2.out w2 ((HUD.out.mono (fun _ _ e => e.elim)).then HS2.out (fun _ _ e => e)) (HBD.out.2.1.upd (by { obtain ⟨_, _, q, _⟩ := HP2.out; exact q }) (fun k hk e => HBD.out.2.2 k e hk))).mono ?_; rintro e w' ⟨rfl, hp⟩; exact ⟨_, rfl, rfl, BothP.of HBD.out HP2.out (fun _ => hp)⟩)
  rintro x w3 ⟨rfl, hp3⟩; have HP3 := Lib.hid hp3; have hS2 : Upd (fun k => O1 k ∨ O2 k) wd w3 := by { obtain ⟨_, _, _, q, _⟩ := hp3; exact q }; clear hS hp3; have hS := hS2; clear hS2; refine ⟨fun _ => hS, ?_⟩
  (try simp only [Act.put, zzT, zzO, zzS])
  iterate 2 (((apply seq_val2 rfl (by rfl); (focus (intro w' hS'; have s1 := hS'.cell c1 HBn.out; have s2 := hS'.cell c2 HBn.out; have s3 := hS'.cell c3 HBn.out; have s4 := hS'.cell c4 HBn.out; go_simp; (first | done | exact rfl | (rw [if_pos (by omega)]; done)))); (focus exact hS))); (try simp only [Act.put, zzT, zzO, zzS]))
  refine seq_nil ?_
  have HFin : Hid (BothP w bt br O1 O2 (n + 24 * 51) M w3) := Lib.hid (BothP.then (HUD.out.mono (fun _ _ e => e.elim)) (fun _ e => .inl e) (fun _ e => .inl e) HP3.out)
  clear hS c1 c2 c3 c4
  go_wp2
  go_ret
  exact ⟨by simp, HFin.out⟩
set_option maxRecDepth 100000 in
set_option maxHeartbeats 16000000 in
theorem does_set {w : World} {bt br : Nat} {O1 O2 : Nat → Prop} {n : Nat} {ls : List ByteArray} (h : Both w bt br O1 O2 n ls) (hn : n + 24 * 52 ≤ 600000) (o : OpD) (v : Value) (hk : o.kind % 10 = 5) (hok : o.ok) (h50 : o.l.length ≤ 50) {F : Nat → Prop} (hv : Rds F w v o.l) (hd : ∀ k, F k → ¬ (O1 k ∨ O2 k)) :
    Calls Try.prog 25 #[.pointer (some ⟨bt, 0, none⟩), .pointer (some ⟨br, 0, none⟩), .agg (opC o v)] w (DoesP w bt br O1 O2 (n + 24 * 51) (setM ls o.i o.s)) := by
  obtain ⟨kind, oi, on, os, ol⟩ := o
  unfold opC
  unfold OpD.ok at hok
  simp only [] at hk hok h50 hv ⊢
  obtain ⟨⟨k0, k255⟩, hoi, hon, hos, hol⟩ := hok
  have hfew := h.1.few
  obtain ⟨M, hM⟩ : ∃ M, setM ls oi os = M := ⟨_, rfl⟩
  obtain ⟨ok, HC1, HC2⟩ : ∃ ok : Bool, Hid (∀ w2, Upd (fun k => O1 k ∨ O2 k) w w2 → Tr w2 bt O1 n ls → Calls Try.prog 20 #[.pointer (some ⟨bt, 0, none⟩), .int .i64 oi, .string os] w2 fun e w' => e = .returned (.bool ok) ∧ TrP w2 bt O1 (n + 24 * 51) M w') ∧ Hid (∀ w2, Upd (fun k => O1 k ∨ O2 k) w w2 → RT w2 br O2 ls → Calls Try.prog 39 #[.pointer (some ⟨br, 0, none⟩), .int .i64 oi, .string os] w2 fun e w' => e = .returned (.bool ok) ∧ RTP w2 br O2 M w') := by
    rw [← hM]
    refine ⟨decide (0 ≤ oi ∧ oi < (ls.length : Int)), Lib.hid fun w2 hu ht => ?_, Lib.hid fun w2 hu hr => ?_⟩
    · refine (Set_tr ht (by omega) os hos oi).mono ?_
      rintro e w' ⟨rfl, hp⟩
      exact ⟨rfl, TrP.mono hp (by omega)⟩
    · exact RSet_any hr oi os hos (by omega)
  rw [hM]
  clear hM hv hd hol
  have HB0 := Lib.hid h
  clear h
  obtain ⟨K, hK⟩ : ∃ K, kind % 10 = K := ⟨_, rfl⟩
  rw [hK] at hk
  go_enter Try.func25, Try.ntmps25
  go_upto_region 2 with (first
    | ((with_reducible refine stopBx 50 _ rfl ?_); unfold Stop; refine wpList_box_blk rfl 50 _ rfl _ (by go_simp; first | done | exact rfl) #[.int .u8 kind, .int .i64 oi, .int .i64 on, .string os, v] rfl ?_; intro bO w1 hbO kO hu1 hs1; have c0 := cell_of kO 0 (v := .int .u8 kind) rfl; have c1 := cell_of kO 1 (v := .int .i64 oi) rfl; have c2 := cell_of kO 2 (v := .int .i64 on) rfl; have c3 := cell_of kO 3 (v := .string os) rfl; have c4 := cell_of kO 4 (v := v) rfl))
  rw [hK]
  subst hk
  clear c0 hK
  have HU1 := Lib.hid hu1
  have HBn : Hid (¬ (O1 bO ∨ O2 bO)) := Lib.hid (fun e => by
    rcases e with e | e
    · have := HB0.out.1.lt e; omega
    · have := HB0.out.2.1.lt e; omega)
  clear hu1 hs1 hbO kO
  go_wp2
  obtain ⟨wd, hwd⟩ : ∃ wd, w1.drew = wd := ⟨_, rfl⟩
  have HUD : Hid (Upd (fun _ => False) w wd) := Lib.hid (by rw [← hwd]; exact HU1.out.drew)
  have HBD := Lib.hid (HB0.out.newer HUD.out)
  replace c1 : wd.cell? ⟨bO, 1, none⟩ = some (.int .i64 oi) := by rw [← hwd]; exact c1
  replace c2 : wd.cell? ⟨bO, 2, none⟩ = some (.int .i64 on) := by rw [← hwd]; exact c2
  replace c3 : wd.cell? ⟨bO, 3, none⟩ = some (.string os) := by rw [← hwd]; exact c3
  replace c4 : wd.cell? ⟨bO, 4, none⟩ = some v := by rw [← hwd]; exact c4
  refine wp_region_seq (fun v => Upd (fun k => O1 k ∨ O2 k) wd v) (fun i => i != 99) [(0, true), (1, true), (2, true), (3, true), (4, true), (6, true), (7, true), (8, true), (9, true), (10, true), (5, false), (11, false), (12, true), (13, true)] (by exact rfl) (by kernel_rfl) (by intro c a d v w h; cases d <;> exact h) ?_
  rw [hwd]; have hS : Upd (fun k => O1 k ∨ O2 k) wd wd := Upd.refl _ _
  iterate 10 (((apply seq_val2 rfl (by rfl); (focus (intro w' hS'; have s1 := hS'.cell c1 HBn.out; have s2 := hS'.cell c2 HBn.out; have s3 := hS'.cell c3 HBn.out; have s4 := hS'.cell c4 HBn.out; go_simp; (first | done | exact rfl | (rw [if_pos (by omega)]; done)))); (focus exact hS))); (try simp only [Act.put, zzT, zzO, zzS]))
  apply seq_call2 (fun v w' => v = .bool ok ∧ TrP wd bt O1 (n + 24 * 51) M w') rfl (by rfl)
  focus (go_simp; (first | done | exact rfl | exact ⟨rfl, rfl⟩))
  focus (refine (HC1.out wd (HUD.out.mono (fun _ _ e => e.elim)) HBD.out.1).mono ?_; rintro e w' ⟨rfl, hp⟩; exact ⟨_, rfl, rfl, hp⟩)
  rintro x w2 ⟨rfl, hp2⟩; have HP2 := Lib.hid hp2; have hS2 : Upd (fun k => O1 k ∨ O2 k) wd w2 := by { obtain ⟨_, _, q, _⟩ := hp2; exact q.mono (fun _ _ e => .inl e) }; clear hS hp2; have hS := hS2; clear hS2; have HS2 := Lib.hid hS; refine ⟨fun _ => hS, ?_⟩
  (try simp only [Act.put, zzT, zzO, zzS])
  apply seq_call2 (fun v w' => v = .bool ok ∧ BothP wd bt br O1 O2 (n + 24 * 51) M w') rfl (by rfl)
  focus (go_simp; (first | done | exact rfl | exact ⟨rfl, rfl⟩))
  focus (refine (HC2.out w2 ((HUD.out.mono (fun _ _ e => e.elim)).then HS2.out (fun _ _ e => e)) (HBD.out.2.1.upd (by { obtain ⟨_, _, q, _⟩ := HP2.out; exact q }) (fun k hk e => HBD.out.2.2 k e hk))).mono ?_; rintro e w' ⟨rfl, hp⟩; exact ⟨_, rfl, rfl, BothP.of HBD.out HP2.out (fun _ => hp)⟩)
  rintro x w3 ⟨rfl, hp3⟩; have HP3 := Lib.hid hp3; have hS2 : Upd (fun k => O1 k ∨ O2 k) wd w3 := by { obtain ⟨_, _, _, q, _⟩ := hp3; exact q }; clear hS hp3; have hS := hS2; clear hS2; refine ⟨fun _ => hS, ?_⟩
  (try simp only [Act.put, zzT, zzO, zzS])
  iterate 2 (((apply seq_val2 rfl (by rfl); (focus (intro w' hS'; have s1 := hS'.cell c1 HBn.out; have s2 := hS'.cell c2 HBn.out; have s3 := hS'.cell c3 HBn.out; have s4 := hS'.cell c4 HBn.out; go_simp; (first | done | exact rfl | (rw [if_pos (by omega)]; done)))); (focus exact hS))); (try simp only [Act.put, zzT, zzO, zzS]))
  refine seq_nil ?_
  have HFin : Hid (BothP w bt br O1 O2 (n + 24 * 51) M w3) := Lib.hid (BothP.then (HUD.out.mono (fun _ _ e => e.elim)) (fun _ e => .inl e) (fun _ e => .inl e) HP3.out)
  clear hS c1 c2 c3 c4
  go_wp2
  go_ret
  exact ⟨by simp, HFin.out⟩
set_option maxRecDepth 100000 in
set_option maxHeartbeats 16000000 in
theorem does_splice {w : World} {bt br : Nat} {O1 O2 : Nat → Prop} {n : Nat} {ls : List ByteArray} (h : Both w bt br O1 O2 n ls) (hn : n + 24 * 52 ≤ 600000) (o : OpD) (v : Value) (hk : o.kind % 10 = 6) (hok : o.ok) (h50 : o.l.length ≤ 50) {F : Nat → Prop} (hv : Rds F w v o.l) (hd : ∀ k, F k → ¬ (O1 k ∨ O2 k)) :
    Calls Try.prog 25 #[.pointer (some ⟨bt, 0, none⟩), .pointer (some ⟨br, 0, none⟩), .agg (opC o v)] w (DoesP w bt br O1 O2 (n + 24 * 51) (splM ls o.i o.n o.l)) := by
  obtain ⟨kind, oi, on, os, ol⟩ := o
  unfold opC
  unfold OpD.ok at hok
  simp only [] at hk hok h50 hv ⊢
  obtain ⟨⟨k0, k255⟩, hoi, hon, hos, hol⟩ := hok
  have hfew := h.1.few
  obtain ⟨M, hM⟩ : ∃ M, splM ls oi on ol = M := ⟨_, rfl⟩
  obtain ⟨ok, HC1, HC2⟩ : ∃ ok : Bool, Hid (∀ w2, Upd (fun k => O1 k ∨ O2 k) w w2 → Tr w2 bt O1 n ls → Calls Try.prog 26 #[.pointer (some ⟨bt, 0, none⟩), .int .i64 oi, .int .i64 on, v] w2 fun e w' => e = .returned (.bool ok) ∧ TrP w2 bt O1 (n + 24 * 51) M w') ∧ Hid (∀ w2, Upd (fun k => O1 k ∨ O2 k) w w2 → RT w2 br O2 ls → Calls Try.prog 40 #[.pointer (some ⟨br, 0, none⟩), .int .i64 oi, .int .i64 on, v] w2 fun e w' => e = .returned (.bool ok) ∧ RTP w2 br O2 M w') := by
    rw [← hM]
    refine ⟨decide (0 ≤ oi ∧ 0 ≤ on ∧ oi + on ≤ (ls.length : Int)), Lib.hid fun w2 hu ht => ?_, Lib.hid fun w2 hu hr => ?_⟩
    · refine (Splice_tr ht oi on v ol (by omega) (hv.upd hu hd) (fun k hk ho => hd k hk (.inl ho)) hol).mono ?_
      rintro e w' ⟨rfl, hp⟩
      exact ⟨rfl, TrP.mono hp (by omega)⟩
    · exact RSplice_any hr oi on hon.2 v ol (hv.upd hu hd) (by omega) hol
  rw [hM]
  clear hM hv hd hol
  have HB0 := Lib.hid h
  clear h
  obtain ⟨K, hK⟩ : ∃ K, kind % 10 = K := ⟨_, rfl⟩
  rw [hK] at hk
  go_enter Try.func25, Try.ntmps25
  go_upto_region 2 with (first
    | ((with_reducible refine stopBx 50 _ rfl ?_); unfold Stop; refine wpList_box_blk rfl 50 _ rfl _ (by go_simp; first | done | exact rfl) #[.int .u8 kind, .int .i64 oi, .int .i64 on, .string os, v] rfl ?_; intro bO w1 hbO kO hu1 hs1; have c0 := cell_of kO 0 (v := .int .u8 kind) rfl; have c1 := cell_of kO 1 (v := .int .i64 oi) rfl; have c2 := cell_of kO 2 (v := .int .i64 on) rfl; have c3 := cell_of kO 3 (v := .string os) rfl; have c4 := cell_of kO 4 (v := v) rfl))
  rw [hK]
  subst hk
  clear c0 hK
  have HU1 := Lib.hid hu1
  have HBn : Hid (¬ (O1 bO ∨ O2 bO)) := Lib.hid (fun e => by
    rcases e with e | e
    · have := HB0.out.1.lt e; omega
    · have := HB0.out.2.1.lt e; omega)
  clear hu1 hs1 hbO kO
  go_wp2
  obtain ⟨wd, hwd⟩ : ∃ wd, w1.drew = wd := ⟨_, rfl⟩
  have HUD : Hid (Upd (fun _ => False) w wd) := Lib.hid (by rw [← hwd]; exact HU1.out.drew)
  have HBD := Lib.hid (HB0.out.newer HUD.out)
  replace c1 : wd.cell? ⟨bO, 1, none⟩ = some (.int .i64 oi) := by rw [← hwd]; exact c1
  replace c2 : wd.cell? ⟨bO, 2, none⟩ = some (.int .i64 on) := by rw [← hwd]; exact c2
  replace c3 : wd.cell? ⟨bO, 3, none⟩ = some (.string os) := by rw [← hwd]; exact c3
  replace c4 : wd.cell? ⟨bO, 4, none⟩ = some v := by rw [← hwd]; exact c4
  refine wp_region_seq (fun v => Upd (fun k => O1 k ∨ O2 k) wd v) (fun i => i != 99) [(0, true), (1, true), (2, true), (3, true), (4, true), (5, true), (6, true), (8, true), (9, true), (10, true), (11, true), (12, true), (13, true), (14, true), (7, false), (15, false), (16, true), (17, true)] (by exact rfl) (by kernel_rfl) (by intro c a d v w h; cases d <;> exact h) ?_
  rw [hwd]; have hS : Upd (fun k => O1 k ∨ O2 k) wd wd := Upd.refl _ _
  iterate 14 (((apply seq_val2 rfl (by rfl); (focus (intro w' hS'; have s1 := hS'.cell c1 HBn.out; have s2 := hS'.cell c2 HBn.out; have s3 := hS'.cell c3 HBn.out; have s4 := hS'.cell c4 HBn.out; go_simp; (first | done | exact rfl | (rw [if_pos (by omega)]; done)))); (focus exact hS))); (try simp only [Act.put, zzT, zzO, zzS]))
  apply seq_call2 (fun v w' => v = .bool ok ∧ TrP wd bt O1 (n + 24 * 51) M w') rfl (by rfl)
  focus (go_simp; (first | done | exact rfl | exact ⟨rfl, rfl⟩))
  focus (refine (HC1.out wd (HUD.out.mono (fun _ _ e => e.elim)) HBD.out.1).mono ?_; rintro e w' ⟨rfl, hp⟩; exact ⟨_, rfl, rfl, hp⟩)
  rintro x w2 ⟨rfl, hp2⟩; have HP2 := Lib.hid hp2; have hS2 : Upd (fun k => O1 k ∨ O2 k) wd w2 := by { obtain ⟨_, _, q, _⟩ := hp2; exact q.mono (fun _ _ e => .inl e) }; clear hS hp2; have hS := hS2; clear hS2; have HS2 := Lib.hid hS; refine ⟨fun _ => hS, ?_⟩
  (try simp only [Act.put, zzT, zzO, zzS])
  apply seq_call2 (fun v w' => v = .bool ok ∧ BothP wd bt br O1 O2 (n + 24 * 51) M w') rfl (by rfl)
  focus (go_simp; (first | done | exact rfl | exact ⟨rfl, rfl⟩))
  focus (refine (HC2.out w2 ((HUD.out.mono (fun _ _ e => e.elim)).then HS2.out (fun _ _ e => e)) (HBD.out.2.1.upd (by { obtain ⟨_, _, q, _⟩ := HP2.out; exact q }) (fun k hk e => HBD.out.2.2 k e hk))).mono ?_; rintro e w' ⟨rfl, hp⟩; exact ⟨_, rfl, rfl, BothP.of HBD.out HP2.out (fun _ => hp)⟩)
  rintro x w3 ⟨rfl, hp3⟩; have HP3 := Lib.hid hp3; have hS2 : Upd (fun k => O1 k ∨ O2 k) wd w3 := by { obtain ⟨_, _, _, q, _⟩ := hp3; exact q }; clear hS hp3; have hS := hS2; clear hS2; refine ⟨fun _ => hS, ?_⟩
  (try simp only [Act.put, zzT, zzO, zzS])
  iterate 2 (((apply seq_val2 rfl (by rfl); (focus (intro w' hS'; have s1 := hS'.cell c1 HBn.out; have s2 := hS'.cell c2 HBn.out; have s3 := hS'.cell c3 HBn.out; have s4 := hS'.cell c4 HBn.out; go_simp; (first | done | exact rfl | (rw [if_pos (by omega)]; done)))); (focus exact hS))); (try simp only [Act.put, zzT, zzO, zzS]))
  refine seq_nil ?_
  have HFin : Hid (BothP w bt br O1 O2 (n + 24 * 51) M w3) := Lib.hid (BothP.then (HUD.out.mono (fun _ _ e => e.elim)) (fun _ e => .inl e) (fun _ e => .inl e) HP3.out)
  clear hS c1 c2 c3 c4
  go_wp2
  go_ret
  exact ⟨by simp, HFin.out⟩
set_option maxRecDepth 100000 in
set_option maxHeartbeats 16000000 in
theorem does_ins0 {w : World} {bt br : Nat} {O1 O2 : Nat → Prop} {n : Nat} {ls : List ByteArray} (h : Both w bt br O1 O2 n ls) (hn : n + 24 * 52 ≤ 600000) (o : OpD) (v : Value) (hk : o.kind % 10 = 0) (hok : o.ok) (h50 : o.l.length ≤ 50) {F : Nat → Prop} (hv : Rds F w v o.l) (hd : ∀ k, F k → ¬ (O1 k ∨ O2 k)) :
    Calls Try.prog 25 #[.pointer (some ⟨bt, 0, none⟩), .pointer (some ⟨br, 0, none⟩), .agg (opC o v)] w (DoesP w bt br O1 O2 (n + 24 * 51) (insM ls o.i o.s)) := by
  obtain ⟨kind, oi, on, os, ol⟩ := o
  unfold opC
  unfold OpD.ok at hok
  simp only [] at hk hok h50 hv ⊢
  obtain ⟨⟨k0, k255⟩, hoi, hon, hos, hol⟩ := hok
  have hfew := h.1.few
  obtain ⟨M, hM⟩ : ∃ M, insM ls oi os = M := ⟨_, rfl⟩
  obtain ⟨ok, HC1, HC2⟩ : ∃ ok : Bool, Hid (∀ w2, Upd (fun k => O1 k ∨ O2 k) w w2 → Tr w2 bt O1 n ls → Calls Try.prog 12 #[.pointer (some ⟨bt, 0, none⟩), .int .i64 oi, .string os] w2 fun e w' => e = .returned (.bool ok) ∧ TrP w2 bt O1 (n + 24 * 51) M w') ∧ Hid (∀ w2, Upd (fun k => O1 k ∨ O2 k) w w2 → RT w2 br O2 ls → Calls Try.prog 43 #[.pointer (some ⟨br, 0, none⟩), .int .i64 oi, .string os] w2 fun e w' => e = .returned (.bool ok) ∧ RTP w2 br O2 M w') := by
    rw [← hM]
    refine ⟨decide (0 ≤ oi ∧ oi ≤ (ls.length : Int)), Lib.hid fun w2 hu ht => ?_, Lib.hid fun w2 hu hr => ?_⟩
    · refine (Insert_tr ht (by omega) os hos oi).mono ?_
      rintro e w' ⟨rfl, hp⟩
      exact ⟨rfl, TrP.mono hp (by omega)⟩
    · exact RInsert_any hr oi os hos (by omega)
  rw [hM]
  clear hM hv hd hol
  have HB0 := Lib.hid h
  clear h
  obtain ⟨K, hK⟩ : ∃ K, kind % 10 = K := ⟨_, rfl⟩
  rw [hK] at hk
  go_enter Try.func25, Try.ntmps25
  go_upto_region 2 with (first
    | ((with_reducible refine stopBx 50 _ rfl ?_); unfold Stop; refine wpList_box_blk rfl 50 _ rfl _ (by go_simp; first | done | exact rfl) #[.int .u8 kind, .int .i64 oi, .int .i64 on, .string os, v] rfl ?_; intro bO w1 hbO kO hu1 hs1; have c0 := cell_of kO 0 (v := .int .u8 kind) rfl; have c1 := cell_of kO 1 (v := .int .i64 oi) rfl; have c2 := cell_of kO 2 (v := .int .i64 on) rfl; have c3 := cell_of kO 3 (v := .string os) rfl; have c4 := cell_of kO 4 (v := v) rfl))
  rw [hK]
  subst hk
  clear c0 hK
  have HU1 := Lib.hid hu1
  have HBn : Hid (¬ (O1 bO ∨ O2 bO)) := Lib.hid (fun e => by
    rcases e with e | e
    · have := HB0.out.1.lt e; omega
    · have := HB0.out.2.1.lt e; omega)
  clear hu1 hs1 hbO kO
  go_wp2
  obtain ⟨wd, hwd⟩ : ∃ wd, w1.drew = wd := ⟨_, rfl⟩
  have HUD : Hid (Upd (fun _ => False) w wd) := Lib.hid (by rw [← hwd]; exact HU1.out.drew)
  have HBD := Lib.hid (HB0.out.newer HUD.out)
  replace c1 : wd.cell? ⟨bO, 1, none⟩ = some (.int .i64 oi) := by rw [← hwd]; exact c1
  replace c2 : wd.cell? ⟨bO, 2, none⟩ = some (.int .i64 on) := by rw [← hwd]; exact c2
  replace c3 : wd.cell? ⟨bO, 3, none⟩ = some (.string os) := by rw [← hwd]; exact c3
  replace c4 : wd.cell? ⟨bO, 4, none⟩ = some v := by rw [← hwd]; exact c4
  refine wp_region_seq (fun v => Upd (fun k => O1 k ∨ O2 k) wd v) (fun i => i != 99) [(0, true), (1, true), (2, true), (3, true), (4, true), (6, true), (7, true), (8, true), (9, true), (10, true), (5, false), (11, false), (12, true), (13, true)] (by exact rfl) (by kernel_rfl) (by intro c a d v w h; cases d <;> exact h) ?_
  rw [hwd]; have hS : Upd (fun k => O1 k ∨ O2 k) wd wd := Upd.refl _ _
  iterate 10 (((apply seq_val2 rfl (by rfl); (focus (intro w' hS'; have s1 := hS'.cell c1 HBn.out; have s2 := hS'.cell c2 HBn.out; have s3 := hS'.cell c3 HBn.out; have s4 := hS'.cell c4 HBn.out; go_simp; (first | done | exact rfl | (rw [if_pos (by omega)]; done)))); (focus exact hS))); (try simp only [Act.put, zzT, zzO, zzS]))
  apply seq_call2 (fun v w' => v = .bool ok ∧ TrP wd bt O1 (n + 24 * 51) M w') rfl (by rfl)
  focus (go_simp; (first | done | exact rfl | exact ⟨rfl, rfl⟩))
  focus (refine (HC1.out wd (HUD.out.mono (fun _ _ e => e.elim)) HBD.out.1).mono ?_; rintro e w' ⟨rfl, hp⟩; exact ⟨_, rfl, rfl, hp⟩)
  rintro x w2 ⟨rfl, hp2⟩; have HP2 := Lib.hid hp2; have hS2 : Upd (fun k => O1 k ∨ O2 k) wd w2 := by { obtain ⟨_, _, q, _⟩ := hp2; exact q.mono (fun _ _ e => .inl e) }; clear hS hp2; have hS := hS2; clear hS2; have HS2 := Lib.hid hS; refine ⟨fun _ => hS, ?_⟩
  (try simp only [Act.put, zzT, zzO, zzS])
  apply seq_call2 (fun v w' => v = .bool ok ∧ BothP wd bt br O1 O2 (n + 24 * 51) M w') rfl (by rfl)
  focus (go_simp; (first | done | exact rfl | exact ⟨rfl, rfl⟩))
  focus (refine (HC2.out w2 ((HUD.out.mono (fun _ _ e => e.elim)).then HS2.out (fun _ _ e => e)) (HBD.out.2.1.upd (by { obtain ⟨_, _, q, _⟩ := HP2.out; exact q }) (fun k hk e => HBD.out.2.2 k e hk))).mono ?_; rintro e w' ⟨rfl, hp⟩; exact ⟨_, rfl, rfl, BothP.of HBD.out HP2.out (fun _ => hp)⟩)
  rintro x w3 ⟨rfl, hp3⟩; have HP3 := Lib.hid hp3; have hS2 : Upd (fun k => O1 k ∨ O2 k) wd w3 := by { obtain ⟨_, _, _, q, _⟩ := hp3; exact q }; clear hS hp3; have hS := hS2; clear hS2; refine ⟨fun _ => hS, ?_⟩
  (try simp only [Act.put, zzT, zzO, zzS])
  iterate 2 (((apply seq_val2 rfl (by rfl); (focus (intro w' hS'; have s1 := hS'.cell c1 HBn.out; have s2 := hS'.cell c2 HBn.out; have s3 := hS'.cell c3 HBn.out; have s4 := hS'.cell c4 HBn.out; go_simp; (first | done | exact rfl | (rw [if_pos (by omega)]; done)))); (focus exact hS))); (try simp only [Act.put, zzT, zzO, zzS]))
  refine seq_nil ?_
  have HFin : Hid (BothP w bt br O1 O2 (n + 24 * 51) M w3) := Lib.hid (BothP.then (HUD.out.mono (fun _ _ e => e.elim)) (fun _ e => .inl e) (fun _ e => .inl e) HP3.out)
  clear hS c1 c2 c3 c4
  go_wp2
  go_ret
  exact ⟨by simp, HFin.out⟩
set_option maxRecDepth 100000 in
set_option maxHeartbeats 16000000 in
theorem does_ins1 {w : World} {bt br : Nat} {O1 O2 : Nat → Prop} {n : Nat} {ls : List ByteArray} (h : Both w bt br O1 O2 n ls) (hn : n + 24 * 52 ≤ 600000) (o : OpD) (v : Value) (hk : o.kind % 10 = 1) (hok : o.ok) (h50 : o.l.length ≤ 50) {F : Nat → Prop} (hv : Rds F w v o.l) (hd : ∀ k, F k → ¬ (O1 k ∨ O2 k)) :
    Calls Try.prog 25 #[.pointer (some ⟨bt, 0, none⟩), .pointer (some ⟨br, 0, none⟩), .agg (opC o v)] w (DoesP w bt br O1 O2 (n + 24 * 51) (insM ls o.i o.s)) := by
  obtain ⟨kind, oi, on, os, ol⟩ := o
  unfold opC
  unfold OpD.ok at hok
  simp only [] at hk hok h50 hv ⊢
  obtain ⟨⟨k0, k255⟩, hoi, hon, hos, hol⟩ := hok
  have hfew := h.1.few
  obtain ⟨M, hM⟩ : ∃ M, insM ls oi os = M := ⟨_, rfl⟩
  obtain ⟨ok, HC1, HC2⟩ : ∃ ok : Bool, Hid (∀ w2, Upd (fun k => O1 k ∨ O2 k) w w2 → Tr w2 bt O1 n ls → Calls Try.prog 12 #[.pointer (some ⟨bt, 0, none⟩), .int .i64 oi, .string os] w2 fun e w' => e = .returned (.bool ok) ∧ TrP w2 bt O1 (n + 24 * 51) M w') ∧ Hid (∀ w2, Upd (fun k => O1 k ∨ O2 k) w w2 → RT w2 br O2 ls → Calls Try.prog 43 #[.pointer (some ⟨br, 0, none⟩), .int .i64 oi, .string os] w2 fun e w' => e = .returned (.bool ok) ∧ RTP w2 br O2 M w') := by
    rw [← hM]
    refine ⟨decide (0 ≤ oi ∧ oi ≤ (ls.length : Int)), Lib.hid fun w2 hu ht => ?_, Lib.hid fun w2 hu hr => ?_⟩
    · refine (Insert_tr ht (by omega) os hos oi).mono ?_
      rintro e w' ⟨rfl, hp⟩
      exact ⟨rfl, TrP.mono hp (by omega)⟩
    · exact RInsert_any hr oi os hos (by omega)
  rw [hM]
  clear hM hv hd hol
  have HB0 := Lib.hid h
  clear h
  obtain ⟨K, hK⟩ : ∃ K, kind % 10 = K := ⟨_, rfl⟩
  rw [hK] at hk
  go_enter Try.func25, Try.ntmps25
  go_upto_region 2 with (first
    | ((with_reducible refine stopBx 50 _ rfl ?_); unfold Stop; refine wpList_box_blk rfl 50 _ rfl _ (by go_simp; first | done | exact rfl) #[.int .u8 kind, .int .i64 oi, .int .i64 on, .string os, v] rfl ?_; intro bO w1 hbO kO hu1 hs1; have c0 := cell_of kO 0 (v := .int .u8 kind) rfl; have c1 := cell_of kO 1 (v := .int .i64 oi) rfl; have c2 := cell_of kO 2 (v := .int .i64 on) rfl; have c3 := cell_of kO 3 (v := .string os) rfl; have c4 := cell_of kO 4 (v := v) rfl))
  rw [hK]
  subst hk
  clear c0 hK
  have HU1 := Lib.hid hu1
  have HBn : Hid (¬ (O1 bO ∨ O2 bO)) := Lib.hid (fun e => by
    rcases e with e | e
    · have := HB0.out.1.lt e; omega
    · have := HB0.out.2.1.lt e; omega)
  clear hu1 hs1 hbO kO
  go_wp2
  obtain ⟨wd, hwd⟩ : ∃ wd, w1.drew = wd := ⟨_, rfl⟩
  have HUD : Hid (Upd (fun _ => False) w wd) := Lib.hid (by rw [← hwd]; exact HU1.out.drew)
  have HBD := Lib.hid (HB0.out.newer HUD.out)
  replace c1 : wd.cell? ⟨bO, 1, none⟩ = some (.int .i64 oi) := by rw [← hwd]; exact c1
  replace c2 : wd.cell? ⟨bO, 2, none⟩ = some (.int .i64 on) := by rw [← hwd]; exact c2
  replace c3 : wd.cell? ⟨bO, 3, none⟩ = some (.string os) := by rw [← hwd]; exact c3
  replace c4 : wd.cell? ⟨bO, 4, none⟩ = some v := by rw [← hwd]; exact c4
  refine wp_region_seq (fun v => Upd (fun k => O1 k ∨ O2 k) wd v) (fun i => i != 99) [(0, true), (1, true), (2, true), (3, true), (4, true), (6, true), (7, true), (8, true), (9, true), (10, true), (5, false), (11, false), (12, true), (13, true)] (by exact rfl) (by kernel_rfl) (by intro c a d v w h; cases d <;> exact h) ?_
  rw [hwd]; have hS : Upd (fun k => O1 k ∨ O2 k) wd wd := Upd.refl _ _
  iterate 10 (((apply seq_val2 rfl (by rfl); (focus (intro w' hS'; have s1 := hS'.cell c1 HBn.out; have s2 := hS'.cell c2 HBn.out; have s3 := hS'.cell c3 HBn.out; have s4 := hS'.cell c4 HBn.out; go_simp; (first | done | exact rfl | (rw [if_pos (by omega)]; done)))); (focus exact hS))); (try simp only [Act.put, zzT, zzO, zzS]))
  apply seq_call2 (fun v w' => v = .bool ok ∧ TrP wd bt O1 (n + 24 * 51) M w') rfl (by rfl)
  focus (go_simp; (first | done | exact rfl | exact ⟨rfl, rfl⟩))
  focus (refine (HC1.out wd (HUD.out.mono (fun _ _ e => e.elim)) HBD.out.1).mono ?_; rintro e w' ⟨rfl, hp⟩; exact ⟨_, rfl, rfl, hp⟩)
  rintro x w2 ⟨rfl, hp2⟩; have HP2 := Lib.hid hp2; have hS2 : Upd (fun k => O1 k ∨ O2 k) wd w2 := by { obtain ⟨_, _, q, _⟩ := hp2; exact q.mono (fun _ _ e => .inl e) }; clear hS hp2; have hS := hS2; clear hS2; have HS2 := Lib.hid hS; refine ⟨fun _ => hS, ?_⟩
  (try simp only [Act.put, zzT, zzO, zzS])
  apply seq_call2 (fun v w' => v = .bool ok ∧ BothP wd bt br O1 O2 (n + 24 * 51) M w') rfl (by rfl)
  focus (go_simp; (first | done | exact rfl | exact ⟨rfl, rfl⟩))
  focus (refine (HC2.out w2 ((HUD.out.mono (fun _ _ e => e.elim)).then HS2.out (fun _ _ e => e)) (HBD.out.2.1.upd (by { obtain ⟨_, _, q, _⟩ := HP2.out; exact q }) (fun k hk e => HBD.out.2.2 k e hk))).mono ?_; rintro e w' ⟨rfl, hp⟩; exact ⟨_, rfl, rfl, BothP.of HBD.out HP2.out (fun _ => hp)⟩)
  rintro x w3 ⟨rfl, hp3⟩; have HP3 := Lib.hid hp3; have hS2 : Upd (fun k => O1 k ∨ O2 k) wd w3 := by { obtain ⟨_, _, _, q, _⟩ := hp3; exact q }; clear hS hp3; have hS := hS2; clear hS2; refine ⟨fun _ => hS, ?_⟩
  (try simp only [Act.put, zzT, zzO, zzS])
  iterate 2 (((apply seq_val2 rfl (by rfl); (focus (intro w' hS'; have s1 := hS'.cell c1 HBn.out; have s2 := hS'.cell c2 HBn.out; have s3 := hS'.cell c3 HBn.out; have s4 := hS'.cell c4 HBn.out; go_simp; (first | done | exact rfl | (rw [if_pos (by omega)]; done)))); (focus exact hS))); (try simp only [Act.put, zzT, zzO, zzS]))
  refine seq_nil ?_
  have HFin : Hid (BothP w bt br O1 O2 (n + 24 * 51) M w3) := Lib.hid (BothP.then (HUD.out.mono (fun _ _ e => e.elim)) (fun _ e => .inl e) (fun _ e => .inl e) HP3.out)
  clear hS c1 c2 c3 c4
  go_wp2
  go_ret
  exact ⟨by simp, HFin.out⟩
set_option maxRecDepth 100000 in
set_option maxHeartbeats 16000000 in
theorem does_ins2 {w : World} {bt br : Nat} {O1 O2 : Nat → Prop} {n : Nat} {ls : List ByteArray} (h : Both w bt br O1 O2 n ls) (hn : n + 24 * 52 ≤ 600000) (o : OpD) (v : Value) (hk : o.kind % 10 = 2) (hok : o.ok) (h50 : o.l.length ≤ 50) {F : Nat → Prop} (hv : Rds F w v o.l) (hd : ∀ k, F k → ¬ (O1 k ∨ O2 k)) :
    Calls Try.prog 25 #[.pointer (some ⟨bt, 0, none⟩), .pointer (some ⟨br, 0, none⟩), .agg (opC o v)] w (DoesP w bt br O1 O2 (n + 24 * 51) (insM ls o.i o.s)) := by
  obtain ⟨kind, oi, on, os, ol⟩ := o
  unfold opC
  unfold OpD.ok at hok
  simp only [] at hk hok h50 hv ⊢
  obtain ⟨⟨k0, k255⟩, hoi, hon, hos, hol⟩ := hok
  have hfew := h.1.few
  obtain ⟨M, hM⟩ : ∃ M, insM ls oi os = M := ⟨_, rfl⟩
  obtain ⟨ok, HC1, HC2⟩ : ∃ ok : Bool, Hid (∀ w2, Upd (fun k => O1 k ∨ O2 k) w w2 → Tr w2 bt O1 n ls → Calls Try.prog 12 #[.pointer (some ⟨bt, 0, none⟩), .int .i64 oi, .string os] w2 fun e w' => e = .returned (.bool ok) ∧ TrP w2 bt O1 (n + 24 * 51) M w') ∧ Hid (∀ w2, Upd (fun k => O1 k ∨ O2 k) w w2 → RT w2 br O2 ls → Calls Try.prog 43 #[.pointer (some ⟨br, 0, none⟩), .int .i64 oi, .string os] w2 fun e w' => e = .returned (.bool ok) ∧ RTP w2 br O2 M w') := by
    rw [← hM]
    refine ⟨decide (0 ≤ oi ∧ oi ≤ (ls.length : Int)), Lib.hid fun w2 hu ht => ?_, Lib.hid fun w2 hu hr => ?_⟩
    · refine (Insert_tr ht (by omega) os hos oi).mono ?_
      rintro e w' ⟨rfl, hp⟩
      exact ⟨rfl, TrP.mono hp (by omega)⟩
    · exact RInsert_any hr oi os hos (by omega)
  rw [hM]
  clear hM hv hd hol
  have HB0 := Lib.hid h
  clear h
  obtain ⟨K, hK⟩ : ∃ K, kind % 10 = K := ⟨_, rfl⟩
  rw [hK] at hk
  go_enter Try.func25, Try.ntmps25
  go_upto_region 2 with (first
    | ((with_reducible refine stopBx 50 _ rfl ?_); unfold Stop; refine wpList_box_blk rfl 50 _ rfl _ (by go_simp; first | done | exact rfl) #[.int .u8 kind, .int .i64 oi, .int .i64 on, .string os, v] rfl ?_; intro bO w1 hbO kO hu1 hs1; have c0 := cell_of kO 0 (v := .int .u8 kind) rfl; have c1 := cell_of kO 1 (v := .int .i64 oi) rfl; have c2 := cell_of kO 2 (v := .int .i64 on) rfl; have c3 := cell_of kO 3 (v := .string os) rfl; have c4 := cell_of kO 4 (v := v) rfl))
  rw [hK]
  subst hk
  clear c0 hK
  have HU1 := Lib.hid hu1
  have HBn : Hid (¬ (O1 bO ∨ O2 bO)) := Lib.hid (fun e => by
    rcases e with e | e
    · have := HB0.out.1.lt e; omega
    · have := HB0.out.2.1.lt e; omega)
  clear hu1 hs1 hbO kO
  go_wp2
  obtain ⟨wd, hwd⟩ : ∃ wd, w1.drew = wd := ⟨_, rfl⟩
  have HUD : Hid (Upd (fun _ => False) w wd) := Lib.hid (by rw [← hwd]; exact HU1.out.drew)
  have HBD := Lib.hid (HB0.out.newer HUD.out)
  replace c1 : wd.cell? ⟨bO, 1, none⟩ = some (.int .i64 oi) := by rw [← hwd]; exact c1
  replace c2 : wd.cell? ⟨bO, 2, none⟩ = some (.int .i64 on) := by rw [← hwd]; exact c2
  replace c3 : wd.cell? ⟨bO, 3, none⟩ = some (.string os) := by rw [← hwd]; exact c3
  replace c4 : wd.cell? ⟨bO, 4, none⟩ = some v := by rw [← hwd]; exact c4
  refine wp_region_seq (fun v => Upd (fun k => O1 k ∨ O2 k) wd v) (fun i => i != 99) [(0, true), (1, true), (2, true), (3, true), (4, true), (6, true), (7, true), (8, true), (9, true), (10, true), (5, false), (11, false), (12, true), (13, true)] (by exact rfl) (by kernel_rfl) (by intro c a d v w h; cases d <;> exact h) ?_
  rw [hwd]; have hS : Upd (fun k => O1 k ∨ O2 k) wd wd := Upd.refl _ _
  iterate 10 (((apply seq_val2 rfl (by rfl); (focus (intro w' hS'; have s1 := hS'.cell c1 HBn.out; have s2 := hS'.cell c2 HBn.out; have s3 := hS'.cell c3 HBn.out; have s4 := hS'.cell c4 HBn.out; go_simp; (first | done | exact rfl | (rw [if_pos (by omega)]; done)))); (focus exact hS))); (try simp only [Act.put, zzT, zzO, zzS]))
  apply seq_call2 (fun v w' => v = .bool ok ∧ TrP wd bt O1 (n + 24 * 51) M w') rfl (by rfl)
  focus (go_simp; (first | done | exact rfl | exact ⟨rfl, rfl⟩))
  focus (refine (HC1.out wd (HUD.out.mono (fun _ _ e => e.elim)) HBD.out.1).mono ?_; rintro e w' ⟨rfl, hp⟩; exact ⟨_, rfl, rfl, hp⟩)
  rintro x w2 ⟨rfl, hp2⟩; have HP2 := Lib.hid hp2; have hS2 : Upd (fun k => O1 k ∨ O2 k) wd w2 := by { obtain ⟨_, _, q, _⟩ := hp2; exact q.mono (fun _ _ e => .inl e) }; clear hS hp2; have hS := hS2; clear hS2; have HS2 := Lib.hid hS; refine ⟨fun _ => hS, ?_⟩
  (try simp only [Act.put, zzT, zzO, zzS])
  apply seq_call2 (fun v w' => v = .bool ok ∧ BothP wd bt br O1 O2 (n + 24 * 51) M w') rfl (by rfl)
  focus (go_simp; (first | done | exact rfl | exact ⟨rfl, rfl⟩))
  focus (refine (HC2.out w2 ((HUD.out.mono (fun _ _ e => e.elim)).then HS2.out (fun _ _ e => e)) (HBD.out.2.1.upd (by { obtain ⟨_, _, q, _⟩ := HP2.out; exact q }) (fun k hk e => HBD.out.2.2 k e hk))).mono ?_; rintro e w' ⟨rfl, hp⟩; exact ⟨_, rfl, rfl, BothP.of HBD.out HP2.out (fun _ => hp)⟩)
  rintro x w3 ⟨rfl, hp3⟩; have HP3 := Lib.hid hp3; have hS2 : Upd (fun k => O1 k ∨ O2 k) wd w3 := by { obtain ⟨_, _, _, q, _⟩ := hp3; exact q }; clear hS hp3; have hS := hS2; clear hS2; refine ⟨fun _ => hS, ?_⟩
  (try simp only [Act.put, zzT, zzO, zzS])
  iterate 2 (((apply seq_val2 rfl (by rfl); (focus (intro w' hS'; have s1 := hS'.cell c1 HBn.out; have s2 := hS'.cell c2 HBn.out; have s3 := hS'.cell c3 HBn.out; have s4 := hS'.cell c4 HBn.out; go_simp; (first | done | exact rfl | (rw [if_pos (by omega)]; done)))); (focus exact hS))); (try simp only [Act.put, zzT, zzO, zzS]))
  refine seq_nil ?_
  have HFin : Hid (BothP w bt br O1 O2 (n + 24 * 51) M w3) := Lib.hid (BothP.then (HUD.out.mono (fun _ _ e => e.elim)) (fun _ e => .inl e) (fun _ e => .inl e) HP3.out)
  clear hS c1 c2 c3 c4
  go_wp2
  go_ret
  exact ⟨by simp, HFin.out⟩
end Go.Proofs.Ytmklapbecdhnmaa
