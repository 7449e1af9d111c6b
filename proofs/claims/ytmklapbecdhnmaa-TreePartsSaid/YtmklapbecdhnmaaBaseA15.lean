/- Lemmas that the law's proof stands on, part 15: Twq. No condition. -/
import Derived.Test.YtmklapbecdhnmaaBaseA0
import Derived.Test.YtmklapbecdhnmaaBaseA14
set_option linter.all false
set_option linter.unusedVariables false
set_option linter.unusedSimpArgs false
namespace Go.Proofs.Ytmklapbecdhnmaa
open Go.RowKit
theorem Eye.kid {w : World} {V : TV} {T : TD} {k nk g kc bK bB : Nat} (h : Eye w V T k nk g kc bK bB) {n c : Nat} (hn : n < nk) (hc : (T.get k).kids.getD n 0 = c) : w.cell? ⟨g, n, none⟩ = some (.int .i64 (c : Int)) := by
  have := h.row.cells0 n _ (get_at (by rw [h.len]; exact hn) hc).1
  rwa [Nat.zero_add] at this
theorem Eye.drew {w : World} {V : TV} {T : TD} {k nk g kc bK bB : Nat} (h : Eye w V T k nk g kc bK bB) : Eye w.drew V T k nk g kc bK bB := h.newer (Below.refl _ _).drew
set_option maxRecDepth 100000 in
set_option maxHeartbeats 16000000 in
theorem mend_full {w : World} {V : TV} {T : TD} {bt : Nat} (hbt : V.bT = bt) (h : TA w V T) {k n : Nat} (fk : T.fine k) (hn : n < (T.get k).kids.length) (hsz : ∀ j ∈ (T.get k).kids, (T.get j).size ≤ 100) (h4 : 4 ≤ T.sz (T.get k).kids n) :
    Calls Try.prog 50 #[.pointer (some ⟨bt, 0, none⟩), .int .i64 (k : Int), .int .i64 (n : Int)] w fun e w' => e = .returned (.tuple #[]) ∧ TPost w V (T) w' := by
  subst hbt
  have HH := Lib.hid h
  have hk := fk.lt
  obtain ⟨nk, hnk⟩ : ∃ m, (T.get k).kids.length = m := ⟨_, rfl⟩
  rw [hnk] at hn
  have hnk1 : nk ≤ 100 := by rw [← hnk]; exact fk.kids
  have HEACH : Hid (∀ j ∈ (T.get k).kids, j < T.nodes.length) := Lib.hid (fun j hj => (fk.each j hj).1)
  have HSIZ := Lib.hid hsz
  have HNK := Lib.hid hnk
  have kT := h.blk
  unfold treeC TV.nv at kT
  have hcap := h.cap
  have hmax := h.max
  unfold maxLen at hmax
  obtain ⟨kv, kc, ek⟩ := (h.kid k hk).form
  rw [show (natsC (T.get k).kids).length = nk by rw [← hnk]; simp [natsC]] at ek
  have HRK : Hid (Row w 3 (.slice kv nk kc) (natsC (T.get k).kids)) := Lib.hid (ek ▸ h.kid k hk)
  have HVK := Lib.hid ek
  obtain ⟨g, hg⟩ := HRK.out.addr (by rw [natsC, List.length_map, hnk]; omega)
  subst hg
  have HK3 : Hid (V.C[k * 3 + 1]? = some (.slice (some ⟨g, 0, none⟩) nk kc)) := Lib.hid (by rw [← ek]; exact (h.cel k hk).2.1)
  have hmf : ∀ (fn : Fn) (first cap : Array Value) (w : World), (Instr.makeFunc fn first cap).run Try.prog w = .ok (.func fn first cap) w := fun _ _ _ _ => rfl
  have s_n : (4 : Int) ≤ ((T.sz (T.get k).kids n : Nat) : Int) := by omega
  clear h4
  have HKT := Lib.hid kT
  clear ek hnk hsz fk h kT
  go_enter Try.func50, Try.ntmps50
  go_upto_region 1 with (first
    | ((with_reducible refine stopBx 24 _ rfl ?_); unfold Stop; refine wpList_box_blk rfl 24 _ rfl _ (by go_simp; first | done | exact rfl) #[.pointer (some ⟨V.bT, 0, none⟩)] rfl ?_; intro bB w1 hbB kB hu1 hs1))
  have b0 := cell_of kB 0 (v := .pointer (some ⟨V.bT, 0, none⟩)) rfl
  have c0 := cell_of (hu1.heap HKT.out (fun h => h)) 0 (v := .slice (some ⟨V.gN, 0, none⟩) T.nodes.length V.cN) rfl
  have m1 := cell_of (hu1.heap HH.out.row (fun h => h)) (k * 3 + 1) HK3.out
  go_upto_region 4 with (first
    | ((with_reducible refine stopAl 42 rfl ?_); unfold Stop; refine wpList_alloc_blk rfl 42 rfl (.slice none 0 0) (by kernel_rfl) #[.slice none 0 0] rfl ?_; intro bK w2 hbK kK2 hu2 hs2)
    | ((with_reducible refine stopSt 42 _ _ rfl ?_); unfold Stop; refine wpList_store_blk rfl 42 _ _ rfl bK 0 rfl (.slice (some ⟨g, 0, none⟩) nk kc) rfl _ #[.slice (some ⟨g, 0, none⟩) nk kc] _ kK2 (zzB rfl) (by kernel_rfl) rfl rfl ?_; intro w3 kK3 hu3 hs3))
  have hlB : bB < w1.heap.size := heap_lt kB
  have HU : Hid (Upd (fun b => w.heap.size ≤ b) w w3) := Lib.hid (((hu1.mono (fun _ _ e => e.elim)).then hu2 (fun _ _ e => e.elim)).then hu3 (fun b hb e => by have := hu1.size; omega))
  have HF : Hid (Frm w V w3 V) := Lib.hid (Frm.newer V HU.out)
  have HE : Hid (Eye w3 V T k nk g kc bK bB) := Lib.hid ⟨HH.out.newer HU.out, hk, HNK.out, HRK.out.upd HU.out (fun b hb e => by have := HRK.out.lt hb; omega), cell_of kK3 0 rfl, (by have := hu2.heap kB (fun h => h); exact cell_of (hu3.heap this (show ¬ bB = bK by omega)) 0 rfl), HEACH.out, HSIZ.out, hnk1⟩
  clear b0 c0 m1 kB kK2 kK3 hu1 hu2 hu3 hs1 hs2 hs3 hbB hbK hlB
  go_wp2_with (first
    | (go_at_call 59; refine (clo_any HE.out n).mono ?_; rintro e w4 ⟨rfl, hq⟩; have HQ := Lib.hid hq; clear hq))
  have HE4 : Hid (Eye w4 V T k nk g kc bK bB) := Lib.hid (HE.out.newer HQ.out)
  have HF4 : Hid (Frm w V w4 V) := Lib.hid (HF.out.trans (Frm.from_ V HQ.out))
  clear HQ
  go_end0
  exact ⟨rfl, TPost.of HF4.out HE4.out.ta⟩
set_option maxRecDepth 100000 in
set_option maxHeartbeats 16000000 in
theorem mend_left {w : World} {V : TV} {T : TD} {bt : Nat} (hbt : V.bT = bt) (h : TA w V T) {k n : Nat} (fk : T.fine k) (hn : n < (T.get k).kids.length) (hsz : ∀ j ∈ (T.get k).kids, (T.get j).size ≤ 100) (h4 : ¬ 4 ≤ T.sz (T.get k).kids n) (n0 : Nat) (hn0 : n = n0 + 1) (h5 : 4 < T.sz (T.get k).kids n0) (a c : Nat) (ha : (T.get k).kids.getD n0 0 = a) (hc : (T.get k).kids.getD n 0 = c) (hsm : SafeMove T a c true) :
    Calls Try.prog 50 #[.pointer (some ⟨bt, 0, none⟩), .int .i64 (k : Int), .int .i64 (n : Int)] w fun e w' => e = .returned (.tuple #[]) ∧ TPost w V (T.move a c true) w' := by
  subst hbt
  have HH := Lib.hid h
  have hk := fk.lt
  obtain ⟨nk, hnk⟩ : ∃ m, (T.get k).kids.length = m := ⟨_, rfl⟩
  rw [hnk] at hn
  have hnk1 : nk ≤ 100 := by rw [← hnk]; exact fk.kids
  have HEACH : Hid (∀ j ∈ (T.get k).kids, j < T.nodes.length) := Lib.hid (fun j hj => (fk.each j hj).1)
  have HSIZ := Lib.hid hsz
  have HNK := Lib.hid hnk
  have kT := h.blk
  unfold treeC TV.nv at kT
  have hcap := h.cap
  have hmax := h.max
  unfold maxLen at hmax
  obtain ⟨kv, kc, ek⟩ := (h.kid k hk).form
  rw [show (natsC (T.get k).kids).length = nk by rw [← hnk]; simp [natsC]] at ek
  have HRK : Hid (Row w 3 (.slice kv nk kc) (natsC (T.get k).kids)) := Lib.hid (ek ▸ h.kid k hk)
  have HVK := Lib.hid ek
  obtain ⟨g, hg⟩ := HRK.out.addr (by rw [natsC, List.length_map, hnk]; omega)
  subst hg
  have HK3 : Hid (V.C[k * 3 + 1]? = some (.slice (some ⟨g, 0, none⟩) nk kc)) := Lib.hid (by rw [← ek]; exact (h.cel k hk).2.1)
  have hmf : ∀ (fn : Fn) (first cap : Array Value) (w : World), (Instr.makeFunc fn first cap).run Try.prog w = .ok (.func fn first cap) w := fun _ _ _ _ => rfl
  have s_n : ¬ (4 : Int) ≤ ((T.sz (T.get k).kids n : Nat) : Int) := by omega
  have s_l : (4 : Int) < ((T.sz (T.get k).kids n0 : Nat) : Int) := by omega
  have gs : IntKind.i64.wrap ((n : Int) - 1) = (n0 : Int) := by rw [show (n : Int) - 1 = (n0 : Int) by omega]; exact IntWalk.i64_in _ (by omega)
  have h1lt : n0 < nk := by omega
  have HA := Lib.hid ha
  have HC := Lib.hid hc
  have HSM := Lib.hid hsm
  clear h4 h5 ha hc hsm hn0
  have HKT := Lib.hid kT
  clear ek hnk hsz fk h kT
  go_enter Try.func50, Try.ntmps50
  go_upto_region 1 with (first
    | ((with_reducible refine stopBx 24 _ rfl ?_); unfold Stop; refine wpList_box_blk rfl 24 _ rfl _ (by go_simp; first | done | exact rfl) #[.pointer (some ⟨V.bT, 0, none⟩)] rfl ?_; intro bB w1 hbB kB hu1 hs1))
  have b0 := cell_of kB 0 (v := .pointer (some ⟨V.bT, 0, none⟩)) rfl
  have c0 := cell_of (hu1.heap HKT.out (fun h => h)) 0 (v := .slice (some ⟨V.gN, 0, none⟩) T.nodes.length V.cN) rfl
  have m1 := cell_of (hu1.heap HH.out.row (fun h => h)) (k * 3 + 1) HK3.out
  go_upto_region 4 with (first
    | ((with_reducible refine stopAl 42 rfl ?_); unfold Stop; refine wpList_alloc_blk rfl 42 rfl (.slice none 0 0) (by kernel_rfl) #[.slice none 0 0] rfl ?_; intro bK w2 hbK kK2 hu2 hs2)
    | ((with_reducible refine stopSt 42 _ _ rfl ?_); unfold Stop; refine wpList_store_blk rfl 42 _ _ rfl bK 0 rfl (.slice (some ⟨g, 0, none⟩) nk kc) rfl _ #[.slice (some ⟨g, 0, none⟩) nk kc] _ kK2 (zzB rfl) (by kernel_rfl) rfl rfl ?_; intro w3 kK3 hu3 hs3))
  have hlB : bB < w1.heap.size := heap_lt kB
  have HU : Hid (Upd (fun b => w.heap.size ≤ b) w w3) := Lib.hid (((hu1.mono (fun _ _ e => e.elim)).then hu2 (fun _ _ e => e.elim)).then hu3 (fun b hb e => by have := hu1.size; omega))
  have HF : Hid (Frm w V w3 V) := Lib.hid (Frm.newer V HU.out)
  have HE : Hid (Eye w3 V T k nk g kc bK bB) := Lib.hid ⟨HH.out.newer HU.out, hk, HNK.out, HRK.out.upd HU.out (fun b hb e => by have := HRK.out.lt hb; omega), cell_of kK3 0 rfl, (by have := hu2.heap kB (fun h => h); exact cell_of (hu3.heap this (show ¬ bB = bK by omega)) 0 rfl), HEACH.out, HSIZ.out, hnk1⟩
  clear b0 c0 m1 kB kK2 kK3 hu1 hu2 hu3 hs1 hs2 hs3 hbB hbK hlB
  go_upto_region 5 with (first
    | (go_at_call 59; refine (clo_any HE.out n).mono ?_; rintro e w4 ⟨rfl, hq⟩; have HQ := Lib.hid hq; clear hq))
  have HE4 : Hid (Eye w4 V T k nk g kc bK bB) := Lib.hid (HE.out.newer HQ.out)
  have HF4 : Hid (Frm w V w4 V) := Lib.hid (HF.out.trans (Frm.from_ V HQ.out))
  clear HQ
  go_upto_region 6 with (first
    | (go_at_call 59; refine (clo_any HE4.out n0).mono ?_; rintro e w6 ⟨rfl, hq⟩; have HQ := Lib.hid hq; clear hq))
  have HE6 : Hid (Eye w6 V T k nk g kc bK bB) := Lib.hid (HE4.out.newer HQ.out)
  have HF6 : Hid (Frm w V w6 V) := Lib.hid (HF4.out.trans (Frm.from_ V HQ.out))
  clear HQ
  obtain ⟨wd, hwd⟩ : ∃ wd, w6.drew = wd := ⟨_, rfl⟩
  have ED : Hid (Eye wd V T k nk g kc bK bB) := Lib.hid (by rw [← hwd]; exact HE6.out.drew)
  have FD : Hid (Frm w V wd V) := Lib.hid (HF6.out.trans (Frm.from_ V (by rw [← hwd]; exact (Below.refl _ _).drew)))
  have q1 := ED.out.cK
  have q2 := ED.out.cB
  have q3 := ED.out.kid h1lt HA.out
  have q4 := ED.out.kid hn HC.out
  refine wp_region_seq (fun v => v = wd) (fun i => i != 10) [(0, true), (1, true), (2, true), (3, true), (4, true), (5, true), (6, true), (7, true), (8, true), (9, true), (10, false)] (by exact rfl) (by kernel_rfl) (by intro c a d v w h; cases d <;> exact h) ?_
  rw [hwd]; have hS : wd = wd := rfl
  iterate 10 (((apply seq_val2 rfl (by rfl); (focus (intro w' hS'; subst hS'; go_simp; (first | done | exact rfl | (rw [if_pos (by omega)]; done)))); (focus exact hS))); (try simp only [Act.put, zzT, zzO, zzS]))
  apply seq_call2 (fun v w' => v = Value.tuple #[] ∧ TPost wd V (T.move a c true) w') rfl (by rfl)
  focus (go_simp; (first | done | exact rfl | exact ⟨rfl, rfl⟩))
  focus (exact (move_any rfl ED.out.ta true HSM.out).mono (fun e w' ⟨h1, h2⟩ => ⟨_, h1, rfl, h2⟩))
  rintro v5 w5 ⟨rfl, hm5⟩; refine ⟨(fun e => by cases e), ?_⟩
  (try simp only [Act.put, zzT, zzO, zzS])
  refine seq_nil ?_
  obtain ⟨V5, t5, f5⟩ := hm5.frm
  have HT5 := Lib.hid t5
  have HF5 := Lib.hid (FD.out.trans f5)
  clear hm5 t5 f5 q1 q2 q3 q4
  go_wp2
  go_end0
  exact ⟨rfl, TPost.of HF5.out HT5.out⟩
set_option maxRecDepth 100000 in
set_option maxHeartbeats 16000000 in
theorem mend_right {w : World} {V : TV} {T : TD} {bt : Nat} (hbt : V.bT = bt) (h : TA w V T) {k n : Nat} (fk : T.fine k) (hn : n < (T.get k).kids.length) (hsz : ∀ j ∈ (T.get k).kids, (T.get j).size ≤ 100) (h4 : ¬ 4 ≤ T.sz (T.get k).kids n) (n0 : Nat) (hn0 : n = n0 + 1) (h5 : ¬ 4 < T.sz (T.get k).kids n0) (n1 : Nat) (hn1 : n1 = n + 1) (h6 : 4 < T.sz (T.get k).kids n1) (a c : Nat) (h1lt : n1 < (T.get k).kids.length) (ha : (T.get k).kids.getD n1 0 = a) (hc : (T.get k).kids.getD n 0 = c) (hsm : SafeMove T a c false) :
    Calls Try.prog 50 #[.pointer (some ⟨bt, 0, none⟩), .int .i64 (k : Int), .int .i64 (n : Int)] w fun e w' => e = .returned (.tuple #[]) ∧ TPost w V (T.move a c false) w' := by
  subst hbt
  have HH := Lib.hid h
  have hk := fk.lt
  obtain ⟨nk, hnk⟩ : ∃ m, (T.get k).kids.length = m := ⟨_, rfl⟩
  rw [hnk] at hn
  have hnk1 : nk ≤ 100 := by rw [← hnk]; exact fk.kids
  have HEACH : Hid (∀ j ∈ (T.get k).kids, j < T.nodes.length) := Lib.hid (fun j hj => (fk.each j hj).1)
  have HSIZ := Lib.hid hsz
  have HNK := Lib.hid hnk
  have kT := h.blk
  unfold treeC TV.nv at kT
  have hcap := h.cap
  have hmax := h.max
  unfold maxLen at hmax
  obtain ⟨kv, kc, ek⟩ := (h.kid k hk).form
  rw [show (natsC (T.get k).kids).length = nk by rw [← hnk]; simp [natsC]] at ek
  have HRK : Hid (Row w 3 (.slice kv nk kc) (natsC (T.get k).kids)) := Lib.hid (ek ▸ h.kid k hk)
  have HVK := Lib.hid ek
  obtain ⟨g, hg⟩ := HRK.out.addr (by rw [natsC, List.length_map, hnk]; omega)
  subst hg
  have HK3 : Hid (V.C[k * 3 + 1]? = some (.slice (some ⟨g, 0, none⟩) nk kc)) := Lib.hid (by rw [← ek]; exact (h.cel k hk).2.1)
  have hmf : ∀ (fn : Fn) (first cap : Array Value) (w : World), (Instr.makeFunc fn first cap).run Try.prog w = .ok (.func fn first cap) w := fun _ _ _ _ => rfl
  have s_n : ¬ (4 : Int) ≤ ((T.sz (T.get k).kids n : Nat) : Int) := by omega
  have s_l : ¬ (4 : Int) < ((T.sz (T.get k).kids n0 : Nat) : Int) := by omega
  have s_r : (4 : Int) < ((T.sz (T.get k).kids n1 : Nat) : Int) := by omega
  have gs : IntKind.i64.wrap ((n : Int) - 1) = (n0 : Int) := by rw [show (n : Int) - 1 = (n0 : Int) by omega]; exact IntWalk.i64_in _ (by omega)
  have gp : IntKind.i64.wrap ((n : Int) + 1) = (n1 : Int) := by rw [show (n : Int) + 1 = (n1 : Int) by omega]; exact IntWalk.i64_in _ (by omega)
  rw [hnk] at h1lt
  have HA := Lib.hid ha
  have HC := Lib.hid hc
  have HSM := Lib.hid hsm
  clear h4 h5 h6 ha hc hsm hn0 hn1
  have HKT := Lib.hid kT
  clear ek hnk hsz fk h kT
  go_enter Try.func50, Try.ntmps50
  go_upto_region 1 with (first
    | ((with_reducible refine stopBx 24 _ rfl ?_); unfold Stop; refine wpList_box_blk rfl 24 _ rfl _ (by go_simp; first | done | exact rfl) #[.pointer (some ⟨V.bT, 0, none⟩)] rfl ?_; intro bB w1 hbB kB hu1 hs1))
  have b0 := cell_of kB 0 (v := .pointer (some ⟨V.bT, 0, none⟩)) rfl
  have c0 := cell_of (hu1.heap HKT.out (fun h => h)) 0 (v := .slice (some ⟨V.gN, 0, none⟩) T.nodes.length V.cN) rfl
  have m1 := cell_of (hu1.heap HH.out.row (fun h => h)) (k * 3 + 1) HK3.out
  go_upto_region 4 with (first
    | ((with_reducible refine stopAl 42 rfl ?_); unfold Stop; refine wpList_alloc_blk rfl 42 rfl (.slice none 0 0) (by kernel_rfl) #[.slice none 0 0] rfl ?_; intro bK w2 hbK kK2 hu2 hs2)
    | ((with_reducible refine stopSt 42 _ _ rfl ?_); unfold Stop; refine wpList_store_blk rfl 42 _ _ rfl bK 0 rfl (.slice (some ⟨g, 0, none⟩) nk kc) rfl _ #[.slice (some ⟨g, 0, none⟩) nk kc] _ kK2 (zzB rfl) (by kernel_rfl) rfl rfl ?_; intro w3 kK3 hu3 hs3))
  have hlB : bB < w1.heap.size := heap_lt kB
  have HU : Hid (Upd (fun b => w.heap.size ≤ b) w w3) := Lib.hid (((hu1.mono (fun _ _ e => e.elim)).then hu2 (fun _ _ e => e.elim)).then hu3 (fun b hb e => by have := hu1.size; omega))
  have HF : Hid (Frm w V w3 V) := Lib.hid (Frm.newer V HU.out)
  have HE : Hid (Eye w3 V T k nk g kc bK bB) := Lib.hid ⟨HH.out.newer HU.out, hk, HNK.out, HRK.out.upd HU.out (fun b hb e => by have := HRK.out.lt hb; omega), cell_of kK3 0 rfl, (by have := hu2.heap kB (fun h => h); exact cell_of (hu3.heap this (show ¬ bB = bK by omega)) 0 rfl), HEACH.out, HSIZ.out, hnk1⟩
  clear b0 c0 m1 kB kK2 kK3 hu1 hu2 hu3 hs1 hs2 hs3 hbB hbK hlB
  go_upto_region 5 with (first
    | (go_at_call 59; refine (clo_any HE.out n).mono ?_; rintro e w4 ⟨rfl, hq⟩; have HQ := Lib.hid hq; clear hq))
  have HE4 : Hid (Eye w4 V T k nk g kc bK bB) := Lib.hid (HE.out.newer HQ.out)
  have HF4 : Hid (Frm w V w4 V) := Lib.hid (HF.out.trans (Frm.from_ V HQ.out))
  clear HQ
  go_upto_region 7 with (first
    | (go_at_call 59; refine (clo_any HE4.out n0).mono ?_; rintro e w6 ⟨rfl, hq⟩; have HQ := Lib.hid hq; clear hq))
  have HE6 : Hid (Eye w6 V T k nk g kc bK bB) := Lib.hid (HE4.out.newer HQ.out)
  have HF6 : Hid (Frm w V w6 V) := Lib.hid (HF4.out.trans (Frm.from_ V HQ.out))
  clear HQ
  go_upto_region 8 with (first
    | (go_at_call 59; refine (clo_any HE6.out n1).mono ?_; rintro e w7 ⟨rfl, hq⟩; have HQ := Lib.hid hq; clear hq))
  have HE7 : Hid (Eye w7 V T k nk g kc bK bB) := Lib.hid (HE6.out.newer HQ.out)
  have HF7 : Hid (Frm w V w7 V) := Lib.hid (HF6.out.trans (Frm.from_ V HQ.out))
  clear HQ
  obtain ⟨wd, hwd⟩ : ∃ wd, w7.drew = wd := ⟨_, rfl⟩
  have ED : Hid (Eye wd V T k nk g kc bK bB) := Lib.hid (by rw [← hwd]; exact HE7.out.drew)
  have FD : Hid (Frm w V wd V) := Lib.hid (HF7.out.trans (Frm.from_ V (by rw [← hwd]; exact (Below.refl _ _).drew)))
  have q1 := ED.out.cK
  have q2 := ED.out.cB
  have q3 := ED.out.kid h1lt HA.out
  have q4 := ED.out.kid hn HC.out
  refine wp_region_seq (fun v => v = wd) (fun i => i != 10) [(0, true), (1, true), (2, true), (3, true), (4, true), (5, true), (6, true), (7, true), (8, true), (9, true), (10, false)] (by exact rfl) (by kernel_rfl) (by intro c a d v w h; cases d <;> exact h) ?_
  rw [hwd]; have hS : wd = wd := rfl
  iterate 10 (((apply seq_val2 rfl (by rfl); (focus (intro w' hS'; subst hS'; go_simp; (first | done | exact rfl | (rw [if_pos (by omega)]; done)))); (focus exact hS))); (try simp only [Act.put, zzT, zzO, zzS]))
  apply seq_call2 (fun v w' => v = Value.tuple #[] ∧ TPost wd V (T.move a c false) w') rfl (by rfl)
  focus (go_simp; (first | done | exact rfl | exact ⟨rfl, rfl⟩))
  focus (exact (move_any rfl ED.out.ta false HSM.out).mono (fun e w' ⟨h1, h2⟩ => ⟨_, h1, rfl, h2⟩))
  rintro v5 w5 ⟨rfl, hm5⟩; refine ⟨(fun e => by cases e), ?_⟩
  (try simp only [Act.put, zzT, zzO, zzS])
  refine seq_nil ?_
  obtain ⟨V5, t5, f5⟩ := hm5.frm
  have HT5 := Lib.hid t5
  have HF5 := Lib.hid (FD.out.trans f5)
  clear hm5 t5 f5 q1 q2 q3 q4
  go_wp2
  go_end0
  exact ⟨rfl, TPost.of HF5.out HT5.out⟩
set_option maxRecDepth 100000 in
set_option maxHeartbeats 16000000 in
theorem mend_right0 {w : World} {V : TV} {T : TD} {bt : Nat} (hbt : V.bT = bt) (h : TA w V T) {k n : Nat} (fk : T.fine k) (hn : n < (T.get k).kids.length) (hsz : ∀ j ∈ (T.get k).kids, (T.get j).size ≤ 100) (h0 : n = 0) (h4 : ¬ 4 ≤ T.sz (T.get k).kids n) (n1 : Nat) (hn1 : n1 = n + 1) (h6 : 4 < T.sz (T.get k).kids n1) (a c : Nat) (h1lt : n1 < (T.get k).kids.length) (ha : (T.get k).kids.getD n1 0 = a) (hc : (T.get k).kids.getD n 0 = c) (hsm : SafeMove T a c false) :
    Calls Try.prog 50 #[.pointer (some ⟨bt, 0, none⟩), .int .i64 (k : Int), .int .i64 (n : Int)] w fun e w' => e = .returned (.tuple #[]) ∧ TPost w V (T.move a c false) w' := by
  subst hbt
  have HH := Lib.hid h
  have hk := fk.lt
  obtain ⟨nk, hnk⟩ : ∃ m, (T.get k).kids.length = m := ⟨_, rfl⟩
  rw [hnk] at hn
  have hnk1 : nk ≤ 100 := by rw [← hnk]; exact fk.kids
  have HEACH : Hid (∀ j ∈ (T.get k).kids, j < T.nodes.length) := Lib.hid (fun j hj => (fk.each j hj).1)
  have HSIZ := Lib.hid hsz
  have HNK := Lib.hid hnk
  have kT := h.blk
  unfold treeC TV.nv at kT
  have hcap := h.cap
  have hmax := h.max
  unfold maxLen at hmax
  obtain ⟨kv, kc, ek⟩ := (h.kid k hk).form
  rw [show (natsC (T.get k).kids).length = nk by rw [← hnk]; simp [natsC]] at ek
  have HRK : Hid (Row w 3 (.slice kv nk kc) (natsC (T.get k).kids)) := Lib.hid (ek ▸ h.kid k hk)
  have HVK := Lib.hid ek
  obtain ⟨g, hg⟩ := HRK.out.addr (by rw [natsC, List.length_map, hnk]; omega)
  subst hg
  have HK3 : Hid (V.C[k * 3 + 1]? = some (.slice (some ⟨g, 0, none⟩) nk kc)) := Lib.hid (by rw [← ek]; exact (h.cel k hk).2.1)
  have hmf : ∀ (fn : Fn) (first cap : Array Value) (w : World), (Instr.makeFunc fn first cap).run Try.prog w = .ok (.func fn first cap) w := fun _ _ _ _ => rfl
  have s_n : ¬ (4 : Int) ≤ ((T.sz (T.get k).kids n : Nat) : Int) := by omega
  have s_r : (4 : Int) < ((T.sz (T.get k).kids n1 : Nat) : Int) := by omega
  have gp : IntKind.i64.wrap ((n : Int) + 1) = (n1 : Int) := by rw [show (n : Int) + 1 = (n1 : Int) by omega]; exact IntWalk.i64_in _ (by omega)
  have gs : IntKind.i64.wrap ((n : Int) - 1) = -1 := by rw [h0]; decide
  have g40 : ¬ (4 : Int) < 0 := by decide
  rw [hnk] at h1lt
  have HA := Lib.hid ha
  have HC := Lib.hid hc
  have HSM := Lib.hid hsm
  clear h4 h6 ha hc hsm hn1 h0
  have HKT := Lib.hid kT
  clear ek hnk hsz fk h kT
  go_enter Try.func50, Try.ntmps50
  go_upto_region 1 with (first
    | ((with_reducible refine stopBx 24 _ rfl ?_); unfold Stop; refine wpList_box_blk rfl 24 _ rfl _ (by go_simp; first | done | exact rfl) #[.pointer (some ⟨V.bT, 0, none⟩)] rfl ?_; intro bB w1 hbB kB hu1 hs1))
  have b0 := cell_of kB 0 (v := .pointer (some ⟨V.bT, 0, none⟩)) rfl
  have c0 := cell_of (hu1.heap HKT.out (fun h => h)) 0 (v := .slice (some ⟨V.gN, 0, none⟩) T.nodes.length V.cN) rfl
  have m1 := cell_of (hu1.heap HH.out.row (fun h => h)) (k * 3 + 1) HK3.out
  go_upto_region 4 with (first
    | ((with_reducible refine stopAl 42 rfl ?_); unfold Stop; refine wpList_alloc_blk rfl 42 rfl (.slice none 0 0) (by kernel_rfl) #[.slice none 0 0] rfl ?_; intro bK w2 hbK kK2 hu2 hs2)
    | ((with_reducible refine stopSt 42 _ _ rfl ?_); unfold Stop; refine wpList_store_blk rfl 42 _ _ rfl bK 0 rfl (.slice (some ⟨g, 0, none⟩) nk kc) rfl _ #[.slice (some ⟨g, 0, none⟩) nk kc] _ kK2 (zzB rfl) (by kernel_rfl) rfl rfl ?_; intro w3 kK3 hu3 hs3))
  have hlB : bB < w1.heap.size := heap_lt kB
  have HU : Hid (Upd (fun b => w.heap.size ≤ b) w w3) := Lib.hid (((hu1.mono (fun _ _ e => e.elim)).then hu2 (fun _ _ e => e.elim)).then hu3 (fun b hb e => by have := hu1.size; omega))
  have HF : Hid (Frm w V w3 V) := Lib.hid (Frm.newer V HU.out)
  have HE : Hid (Eye w3 V T k nk g kc bK bB) := Lib.hid ⟨HH.out.newer HU.out, hk, HNK.out, HRK.out.upd HU.out (fun b hb e => by have := HRK.out.lt hb; omega), cell_of kK3 0 rfl, (by have := hu2.heap kB (fun h => h); exact cell_of (hu3.heap this (show ¬ bB = bK by omega)) 0 rfl), HEACH.out, HSIZ.out, hnk1⟩
  clear b0 c0 m1 kB kK2 kK3 hu1 hu2 hu3 hs1 hs2 hs3 hbB hbK hlB
  go_upto_region 5 with (first
    | (go_at_call 59; refine (clo_any HE.out n).mono ?_; rintro e w4 ⟨rfl, hq⟩; have HQ := Lib.hid hq; clear hq))
  have HE4 : Hid (Eye w4 V T k nk g kc bK bB) := Lib.hid (HE.out.newer HQ.out)
  have HF4 : Hid (Frm w V w4 V) := Lib.hid (HF.out.trans (Frm.from_ V HQ.out))
  clear HQ
  go_upto_region 7 with (first
    | (go_at_call 59; refine (clo_low bK bB (-1) (by decide)).mono ?_; rintro e w6 ⟨rfl, hq⟩; have HQ := Lib.hid hq; clear hq))
  have HE6 : Hid (Eye w6 V T k nk g kc bK bB) := Lib.hid (HE4.out.newer HQ.out)
  have HF6 : Hid (Frm w V w6 V) := Lib.hid (HF4.out.trans (Frm.from_ V HQ.out))
  clear HQ
  go_upto_region 8 with (first
    | (go_at_call 59; refine (clo_any HE6.out n1).mono ?_; rintro e w7 ⟨rfl, hq⟩; have HQ := Lib.hid hq; clear hq))
  have HE7 : Hid (Eye w7 V T k nk g kc bK bB) := Lib.hid (HE6.out.newer HQ.out)
  have HF7 : Hid (Frm w V w7 V) := Lib.hid (HF6.out.trans (Frm.from_ V HQ.out))
  clear HQ
  obtain ⟨wd, hwd⟩ : ∃ wd, w7.drew = wd := ⟨_, rfl⟩
  have ED : Hid (Eye wd V T k nk g kc bK bB) := Lib.hid (by rw [← hwd]; exact HE7.out.drew)
  have FD : Hid (Frm w V wd V) := Lib.hid (HF7.out.trans (Frm.from_ V (by rw [← hwd]; exact (Below.refl _ _).drew)))
  have q1 := ED.out.cK
  have q2 := ED.out.cB
  have q3 := ED.out.kid h1lt HA.out
  have q4 := ED.out.kid hn HC.out
  refine wp_region_seq (fun v => v = wd) (fun i => i != 10) [(0, true), (1, true), (2, true), (3, true), (4, true), (5, true), (6, true), (7, true), (8, true), (9, true), (10, false)] (by exact rfl) (by kernel_rfl) (by intro c a d v w h; cases d <;> exact h) ?_
  rw [hwd]; have hS : wd = wd := rfl
  iterate 10 (((apply seq_val2 rfl (by rfl); (focus (intro w' hS'; subst hS'; go_simp; (first | done | exact rfl | (rw [if_pos (by omega)]; done)))); (focus exact hS))); (try simp only [Act.put, zzT, zzO, zzS]))
  apply seq_call2 (fun v w' => v = Value.tuple #[] ∧ TPost wd V (T.move a c false) w') rfl (by rfl)
  focus (go_simp; (first | done | exact rfl | exact ⟨rfl, rfl⟩))
  focus (exact (move_any rfl ED.out.ta false HSM.out).mono (fun e w' ⟨h1, h2⟩ => ⟨_, h1, rfl, h2⟩))
  rintro v5 w5 ⟨rfl, hm5⟩; refine ⟨(fun e => by cases e), ?_⟩
  (try simp only [Act.put, zzT, zzO, zzS])
  refine seq_nil ?_
  obtain ⟨V5, t5, f5⟩ := hm5.frm
  have HT5 := Lib.hid t5
  have HF5 := Lib.hid (FD.out.trans f5)
  clear hm5 t5 f5 q1 q2 q3 q4
  go_wp2
  go_end0
  exact ⟨rfl, TPost.of HF5.out HT5.out⟩
set_option maxRecDepth 100000 in
set_option maxHeartbeats 16000000 in
theorem mend_mergeL {w : World} {V : TV} {T : TD} {bt : Nat} (hbt : V.bT = bt) (h : TA w V T) {k n : Nat} (fk : T.fine k) (hn : n < (T.get k).kids.length) (hsz : ∀ j ∈ (T.get k).kids, (T.get j).size ≤ 100) (h4 : ¬ 4 ≤ T.sz (T.get k).kids n) (n0 : Nat) (hn0 : n = n0 + 1) (h5 : ¬ 4 < T.sz (T.get k).kids n0) (n1 : Nat) (hn1 : n1 = n + 1) (h6 : ¬ 4 < T.sz (T.get k).kids n1) (hsm : SafeMerge T k n0) :
    Calls Try.prog 50 #[.pointer (some ⟨bt, 0, none⟩), .int .i64 (k : Int), .int .i64 (n : Int)] w fun e w' => e = .returned (.tuple #[]) ∧ TPost w V (T.merge k n0) w' := by
  subst hbt
  have HH := Lib.hid h
  have hk := fk.lt
  obtain ⟨nk, hnk⟩ : ∃ m, (T.get k).kids.length = m := ⟨_, rfl⟩
  rw [hnk] at hn
  have hnk1 : nk ≤ 100 := by rw [← hnk]; exact fk.kids
  have HEACH : Hid (∀ j ∈ (T.get k).kids, j < T.nodes.length) := Lib.hid (fun j hj => (fk.each j hj).1)
  have HSIZ := Lib.hid hsz
  have HNK := Lib.hid hnk
  have kT := h.blk
  unfold treeC TV.nv at kT
  have hcap := h.cap
  have hmax := h.max
  unfold maxLen at hmax
  obtain ⟨kv, kc, ek⟩ := (h.kid k hk).form
  rw [show (natsC (T.get k).kids).length = nk by rw [← hnk]; simp [natsC]] at ek
  have HRK : Hid (Row w 3 (.slice kv nk kc) (natsC (T.get k).kids)) := Lib.hid (ek ▸ h.kid k hk)
  have HVK := Lib.hid ek
  obtain ⟨g, hg⟩ := HRK.out.addr (by rw [natsC, List.length_map, hnk]; omega)
  subst hg
  have HK3 : Hid (V.C[k * 3 + 1]? = some (.slice (some ⟨g, 0, none⟩) nk kc)) := Lib.hid (by rw [← ek]; exact (h.cel k hk).2.1)
  have hmf : ∀ (fn : Fn) (first cap : Array Value) (w : World), (Instr.makeFunc fn first cap).run Try.prog w = .ok (.func fn first cap) w := fun _ _ _ _ => rfl
  have s_n : ¬ (4 : Int) ≤ ((T.sz (T.get k).kids n : Nat) : Int) := by omega
  have s_l : ¬ (4 : Int) < ((T.sz (T.get k).kids n0 : Nat) : Int) := by omega
  have s_r : ¬ (4 : Int) < ((T.sz (T.get k).kids n1 : Nat) : Int) := by omega
  have gs : IntKind.i64.wrap ((n : Int) - 1) = (n0 : Int) := by rw [show (n : Int) - 1 = (n0 : Int) by omega]; exact IntWalk.i64_in _ (by omega)
  have gp : IntKind.i64.wrap ((n : Int) + 1) = (n1 : Int) := by rw [show (n : Int) + 1 = (n1 : Int) by omega]; exact IntWalk.i64_in _ (by omega)
  have g0 : (0 : Int) < (n : Int) := by omega
  have HSM := Lib.hid hsm
  clear h4 h5 h6 hsm hn0 hn1
  have HKT := Lib.hid kT
  clear ek hnk hsz fk h kT
  go_enter Try.func50, Try.ntmps50
  go_upto_region 1 with (first
    | ((with_reducible refine stopBx 24 _ rfl ?_); unfold Stop; refine wpList_box_blk rfl 24 _ rfl _ (by go_simp; first | done | exact rfl) #[.pointer (some ⟨V.bT, 0, none⟩)] rfl ?_; intro bB w1 hbB kB hu1 hs1))
  have b0 := cell_of kB 0 (v := .pointer (some ⟨V.bT, 0, none⟩)) rfl
  have c0 := cell_of (hu1.heap HKT.out (fun h => h)) 0 (v := .slice (some ⟨V.gN, 0, none⟩) T.nodes.length V.cN) rfl
  have m1 := cell_of (hu1.heap HH.out.row (fun h => h)) (k * 3 + 1) HK3.out
  go_upto_region 4 with (first
    | ((with_reducible refine stopAl 42 rfl ?_); unfold Stop; refine wpList_alloc_blk rfl 42 rfl (.slice none 0 0) (by kernel_rfl) #[.slice none 0 0] rfl ?_; intro bK w2 hbK kK2 hu2 hs2)
    | ((with_reducible refine stopSt 42 _ _ rfl ?_); unfold Stop; refine wpList_store_blk rfl 42 _ _ rfl bK 0 rfl (.slice (some ⟨g, 0, none⟩) nk kc) rfl _ #[.slice (some ⟨g, 0, none⟩) nk kc] _ kK2 (zzB rfl) (by kernel_rfl) rfl rfl ?_; intro w3 kK3 hu3 hs3))
  have hlB : bB < w1.heap.size := heap_lt kB
  have HU : Hid (Upd (fun b => w.heap.size ≤ b) w w3) := Lib.hid (((hu1.mono (fun _ _ e => e.elim)).then hu2 (fun _ _ e => e.elim)).then hu3 (fun b hb e => by have := hu1.size; omega))
  have HF : Hid (Frm w V w3 V) := Lib.hid (Frm.newer V HU.out)
  have HE : Hid (Eye w3 V T k nk g kc bK bB) := Lib.hid ⟨HH.out.newer HU.out, hk, HNK.out, HRK.out.upd HU.out (fun b hb e => by have := HRK.out.lt hb; omega), cell_of kK3 0 rfl, (by have := hu2.heap kB (fun h => h); exact cell_of (hu3.heap this (show ¬ bB = bK by omega)) 0 rfl), HEACH.out, HSIZ.out, hnk1⟩
  clear b0 c0 m1 kB kK2 kK3 hu1 hu2 hu3 hs1 hs2 hs3 hbB hbK hlB
  go_upto_region 5 with (first
    | (go_at_call 59; refine (clo_any HE.out n).mono ?_; rintro e w4 ⟨rfl, hq⟩; have HQ := Lib.hid hq; clear hq))
  have HE4 : Hid (Eye w4 V T k nk g kc bK bB) := Lib.hid (HE.out.newer HQ.out)
  have HF4 : Hid (Frm w V w4 V) := Lib.hid (HF.out.trans (Frm.from_ V HQ.out))
  clear HQ
  go_upto_region 7 with (first
    | (go_at_call 59; refine (clo_any HE4.out n0).mono ?_; rintro e w6 ⟨rfl, hq⟩; have HQ := Lib.hid hq; clear hq))
  have HE6 : Hid (Eye w6 V T k nk g kc bK bB) := Lib.hid (HE4.out.newer HQ.out)
  have HF6 : Hid (Frm w V w6 V) := Lib.hid (HF4.out.trans (Frm.from_ V HQ.out))
  clear HQ
  go_upto_region 9 with (first
    | (go_at_call 59; refine (clo_any HE6.out n1).mono ?_; rintro e w7 ⟨rfl, hq⟩; have HQ := Lib.hid hq; clear hq))
  have HE7 : Hid (Eye w7 V T k nk g kc bK bB) := Lib.hid (HE6.out.newer HQ.out)
  have HF7 : Hid (Frm w V w7 V) := Lib.hid (HF6.out.trans (Frm.from_ V HQ.out))
  clear HQ
  have q2 := HE7.out.cB
  go_wp2_with (first
    | (go_at_call 61; refine (merge_any rfl HE7.out.ta HSM.out).mono ?_; rintro e w9 ⟨rfl, hm⟩; have HM := Lib.hid hm; clear hm))
  go_end0
  obtain ⟨V5, t5, f5⟩ := HM.out.frm
  exact ⟨rfl, TPost.of (HF7.out.trans f5) t5⟩
set_option maxRecDepth 100000 in
set_option maxHeartbeats 16000000 in
theorem mend_mergeR {w : World} {V : TV} {T : TD} {bt : Nat} (hbt : V.bT = bt) (h : TA w V T) {k n : Nat} (fk : T.fine k) (hn : n < (T.get k).kids.length) (hsz : ∀ j ∈ (T.get k).kids, (T.get j).size ≤ 100) (h0 : n = 0) (h4 : ¬ 4 ≤ T.sz (T.get k).kids n) (n1 : Nat) (hn1 : n1 = n + 1) (h6 : ¬ 4 < T.sz (T.get k).kids n1) (hsm : SafeMerge T k n) :
    Calls Try.prog 50 #[.pointer (some ⟨bt, 0, none⟩), .int .i64 (k : Int), .int .i64 (n : Int)] w fun e w' => e = .returned (.tuple #[]) ∧ TPost w V (T.merge k n) w' := by
  subst hbt
  have HH := Lib.hid h
  have hk := fk.lt
  obtain ⟨nk, hnk⟩ : ∃ m, (T.get k).kids.length = m := ⟨_, rfl⟩
  rw [hnk] at hn
  have hnk1 : nk ≤ 100 := by rw [← hnk]; exact fk.kids
  have HEACH : Hid (∀ j ∈ (T.get k).kids, j < T.nodes.length) := Lib.hid (fun j hj => (fk.each j hj).1)
  have HSIZ := Lib.hid hsz
  have HNK := Lib.hid hnk
  have kT := h.blk
  unfold treeC TV.nv at kT
  have hcap := h.cap
  have hmax := h.max
  unfold maxLen at hmax
  obtain ⟨kv, kc, ek⟩ := (h.kid k hk).form
  rw [show (natsC (T.get k).kids).length = nk by rw [← hnk]; simp [natsC]] at ek
  have HRK : Hid (Row w 3 (.slice kv nk kc) (natsC (T.get k).kids)) := Lib.hid (ek ▸ h.kid k hk)
  have HVK := Lib.hid ek
  obtain ⟨g, hg⟩ := HRK.out.addr (by rw [natsC, List.length_map, hnk]; omega)
  subst hg
  have HK3 : Hid (V.C[k * 3 + 1]? = some (.slice (some ⟨g, 0, none⟩) nk kc)) := Lib.hid (by rw [← ek]; exact (h.cel k hk).2.1)
  have hmf : ∀ (fn : Fn) (first cap : Array Value) (w : World), (Instr.makeFunc fn first cap).run Try.prog w = .ok (.func fn first cap) w := fun _ _ _ _ => rfl
  have s_n : ¬ (4 : Int) ≤ ((T.sz (T.get k).kids n : Nat) : Int) := by omega
  have s_r : ¬ (4 : Int) < ((T.sz (T.get k).kids n1 : Nat) : Int) := by omega
  have gp : IntKind.i64.wrap ((n : Int) + 1) = (n1 : Int) := by rw [show (n : Int) + 1 = (n1 : Int) by omega]; exact IntWalk.i64_in _ (by omega)
  have gs : IntKind.i64.wrap ((n : Int) - 1) = -1 := by rw [h0]; decide
  have g40 : ¬ (4 : Int) < 0 := by decide
  have g0 : ¬ (0 : Int) < (n : Int) := by omega
  have HSM := Lib.hid hsm
  clear h4 h6 hsm hn1 h0
  have HKT := Lib.hid kT
  clear ek hnk hsz fk h kT
  go_enter Try.func50, Try.ntmps50
  go_upto_region 1 with (first
    | ((with_reducible refine stopBx 24 _ rfl ?_); unfold Stop; refine wpList_box_blk rfl 24 _ rfl _ (by go_simp; first | done | exact rfl) #[.pointer (some ⟨V.bT, 0, none⟩)] rfl ?_; intro bB w1 hbB kB hu1 hs1))
  have b0 := cell_of kB 0 (v := .pointer (some ⟨V.bT, 0, none⟩)) rfl
  have c0 := cell_of (hu1.heap HKT.out (fun h => h)) 0 (v := .slice (some ⟨V.gN, 0, none⟩) T.nodes.length V.cN) rfl
  have m1 := cell_of (hu1.heap HH.out.row (fun h => h)) (k * 3 + 1) HK3.out
  go_upto_region 4 with (first
    | ((with_reducible refine stopAl 42 rfl ?_); unfold Stop; refine wpList_alloc_blk rfl 42 rfl (.slice none 0 0) (by kernel_rfl) #[.slice none 0 0] rfl ?_; intro bK w2 hbK kK2 hu2 hs2)
    | ((with_reducible refine stopSt 42 _ _ rfl ?_); unfold Stop; refine wpList_store_blk rfl 42 _ _ rfl bK 0 rfl (.slice (some ⟨g, 0, none⟩) nk kc) rfl _ #[.slice (some ⟨g, 0, none⟩) nk kc] _ kK2 (zzB rfl) (by kernel_rfl) rfl rfl ?_; intro w3 kK3 hu3 hs3))
  have hlB : bB < w1.heap.size := heap_lt kB
  have HU : Hid (Upd (fun b => w.heap.size ≤ b) w w3) := Lib.hid (((hu1.mono (fun _ _ e => e.elim)).then hu2 (fun _ _ e => e.elim)).then hu3 (fun b hb e => by have := hu1.size; omega))
  have HF : Hid (Frm w V w3 V) := Lib.hid (Frm.newer V HU.out)
  have HE : Hid (Eye w3 V T k nk g kc bK bB) := Lib.hid ⟨HH.out.newer HU.out, hk, HNK.out, HRK.out.upd HU.out (fun b hb e => by have := HRK.out.lt hb; omega), cell_of kK3 0 rfl, (by have := hu2.heap kB (fun h => h); exact cell_of (hu3.heap this (show ¬ bB = bK by omega)) 0 rfl), HEACH.out, HSIZ.out, hnk1⟩
  clear b0 c0 m1 kB kK2 kK3 hu1 hu2 hu3 hs1 hs2 hs3 hbB hbK hlB
  go_upto_region 5 with (first
    | (go_at_call 59; refine (clo_any HE.out n).mono ?_; rintro e w4 ⟨rfl, hq⟩; have HQ := Lib.hid hq; clear hq))
  have HE4 : Hid (Eye w4 V T k nk g kc bK bB) := Lib.hid (HE.out.newer HQ.out)
  have HF4 : Hid (Frm w V w4 V) := Lib.hid (HF.out.trans (Frm.from_ V HQ.out))
  clear HQ
  go_upto_region 7 with (first
    | (go_at_call 59; refine (clo_low bK bB (-1) (by decide)).mono ?_; rintro e w6 ⟨rfl, hq⟩; have HQ := Lib.hid hq; clear hq))
  have HE6 : Hid (Eye w6 V T k nk g kc bK bB) := Lib.hid (HE4.out.newer HQ.out)
  have HF6 : Hid (Frm w V w6 V) := Lib.hid (HF4.out.trans (Frm.from_ V HQ.out))
  clear HQ
  go_upto_region 9 with (first
    | (go_at_call 59; refine (clo_any HE6.out n1).mono ?_; rintro e w7 ⟨rfl, hq⟩; have HQ := Lib.hid hq; clear hq))
  have HE7 : Hid (Eye w7 V T k nk g kc bK bB) := Lib.hid (HE6.out.newer HQ.out)
  have HF7 : Hid (Frm w V w7 V) := Lib.hid (HF6.out.trans (Frm.from_ V HQ.out))
  clear HQ
  have q2 := HE7.out.cB
  go_wp2_with (first
    | (go_at_call 61; refine (merge_any rfl HE7.out.ta HSM.out).mono ?_; rintro e w9 ⟨rfl, hm⟩; have HM := Lib.hid hm; clear hm))
  go_end0
  obtain ⟨V5, t5, f5⟩ := HM.out.frm
  exact ⟨rfl, TPost.of (HF7.out.trans f5) t5⟩
/-- mend, whole. -/
theorem mend_any {w : World} {V : TV} {T : TD} {bt : Nat} (hbt : V.bT = bt) (h : TA w V T) {k n : Nat} (hs : SafeMend T k n) :
    Calls Try.prog 50 #[.pointer (some ⟨bt, 0, none⟩), .int .i64 (k : Int), .int .i64 (n : Int)] w fun e w' => e = .returned (.tuple #[]) ∧ TPost w V (T.mend k n) w' := by
  obtain ⟨fk, hn, hsz, hc⟩ := hs
  unfold TD.mend
  by_cases h4 : 4 ≤ T.sz (T.get k).kids n
  · rw [if_pos h4]
    exact mend_full hbt h fk hn hsz h4
  · rw [if_neg h4] at hc ⊢
    by_cases h5 : 0 < n ∧ 4 < T.sz (T.get k).kids (n - 1)
    · rw [if_pos h5] at hc ⊢
      exact mend_left hbt h fk hn hsz h4 (n - 1) (by omega) h5.2 _ _ rfl rfl hc
    · rw [if_neg h5] at hc ⊢
      by_cases h6 : 4 < T.sz (T.get k).kids (n + 1)
      · rw [if_pos h6] at hc ⊢
        have hlt : n + 1 < (T.get k).kids.length := by
          rcases Nat.lt_or_ge (n + 1) (T.get k).kids.length with q | q
          · exact q
          · unfold TD.sz at h6
            rw [List.getElem?_eq_none q] at h6
            simp at h6
        rcases Nat.eq_zero_or_pos n with h0 | h0
        · exact mend_right0 hbt h fk hn hsz h0 h4 (n + 1) rfl h6 _ _ hlt rfl rfl hc
        · exact mend_right hbt h fk hn hsz h4 (n - 1) (by omega) (fun q => h5 ⟨h0, q⟩) (n + 1) rfl h6 _ _ hlt rfl rfl hc
      · rw [if_neg h6] at hc ⊢
        by_cases h0 : 0 < n
        · rw [if_pos h0] at hc ⊢
          exact mend_mergeL hbt h fk hn hsz h4 (n - 1) (by omega) (fun q => h5 ⟨h0, q⟩) (n + 1) rfl h6 hc
        · rw [if_neg h0] at hc ⊢
          exact mend_mergeR hbt h fk hn hsz (by omega) h4 (n + 1) rfl h6 hc
end Go.Proofs.Ytmklapbecdhnmaa
