/- Lemmas that the law's proof stands on, part 9: Twd, Twe, Twf. No condition. -/
import Derived.Test.YtmklapbecdhnmaaBaseA0
import Derived.Test.YtmklapbecdhnmaaBaseA8
set_option linter.all false
set_option linter.unusedVariables false
set_option linter.unusedSimpArgs false
namespace Go.Proofs.Ytmklapbecdhnmaa
open Go.RowKit
def MPost (w : World) (V : TV) (l k' : Value) (T' : TD) (w' : World) : Prop := ∃ V', TA w' V' T' ∧ Upd (fun b => ∃ s, V.own s = some b) w w' ∧ V'.bT = V.bT ∧
  ∀ s b, V'.own s = some b → (∃ t, V.own t = some b) ∨ l.ownBlock = some b ∨ k'.ownBlock = some b ∨ w.heap.size ≤ b
theorem three {C : Array Value} {i : Nat} {a b c : Value} (h : i + 3 ≤ C.size) : spl C i [a, b, c] = ((C.setIfInBounds i a).setIfInBounds (i + 1) b).setIfInBounds (i + 1 + 1) c := rfl
theorem spl3_at {C : Array Value} {i : Nat} {a b c : Value} (h : i + 3 ≤ C.size) : (spl C i [a, b, c])[i]? = some a ∧ (spl C i [a, b, c])[i + 1]? = some b ∧ (spl C i [a, b, c])[i + 2]? = some c ∧ (spl C i [a, b, c]).size = C.size ∧ ∀ j, j < i ∨ i + 3 ≤ j → (spl C i [a, b, c])[j]? = C[j]? := by
  rw [three h]
  refine ⟨?_, ?_, ?_, by simp, fun j hj => ?_⟩
  · rw [Array.getElem?_setIfInBounds_ne (by omega), Array.getElem?_setIfInBounds_ne (by omega), Array.getElem?_setIfInBounds_self_of_lt (by omega)]
  · rw [Array.getElem?_setIfInBounds_ne (by omega), Array.getElem?_setIfInBounds_self_of_lt (by simp; omega)]
  · rw [Array.getElem?_setIfInBounds_self_of_lt (by simp; omega)]
  · rw [Array.getElem?_setIfInBounds_ne (by omega), Array.getElem?_setIfInBounds_ne (by omega), Array.getElem?_setIfInBounds_ne (by omega)]
theorem ones3 {a b c : Value} (h1 : a.oneCell' = true) (h2 : b.oneCell' = true) (h3 : c.oneCell' = true) : (Value.agg #[a, b, c]).cells.toList.all (·.oneCell') = true := by
  show ([a, b, c].all (·.oneCell')) = true
  rw [List.all_cons, List.all_cons, List.all_cons, h1, h2, h3]
  rfl
theorem row_one {w : World} {e : TypeId} {v : Value} {xs : List Value} (h : Row w e v xs) : v.oneCell' = true := by
  rcases h with ⟨rfl, _⟩ | ⟨_, _, _, rfl, _⟩ <;> rfl
theorem own_node {w : World} {B n : Nat} {v : Value} {xs : List Value} {e : TypeId} (h : w.ownsRow B e 3 v (n + 1) xs) : ∃ g c, v = .slice (some ⟨g, 0, none⟩) (n + 1) c := by
  rcases h.2 with ⟨_, h0⟩ | ⟨g, cap, cur, rfl, _⟩
  · omega
  · exact ⟨g, cap, rfl⟩
theorem info_node : (Try.prog.info? 61).map (fun i => (i.zero, i.size, i.bytes)) = some (some (.agg #[.slice none 0 0, .slice none 0 0, .int .i64 0]), 3, 56) := by kernel_rfl
set_option maxRecDepth 100000 in
set_option maxHeartbeats 8000000 in
theorem make_any {w : World} {V : TV} {T : TD} (h : TA w V T) (x : ND) (l k' : Value) (hl : Row w 9 l (strsC x.lines)) (hk : Row w 3 k' (natsC x.kids)) (dl : ∀ b, l.ownBlock = some b → ∀ s, V.own s ≠ some b) (dk : ∀ b, k'.ownBlock = some b → ∀ s, V.own s ≠ some b) (dlk : ∀ b, l.ownBlock = some b → k'.ownBlock = some b → False)
    (hfr : ∀ j ∈ T.free, j < T.nodes.length) (hL : T.load ≤ 10000000) :
    Calls Try.prog 30 #[.pointer (some ⟨V.bT, 0, none⟩), .agg #[l, k', .int .i64 (x.count : Int)]] w fun e w' => e = .returned (.int .i64 ((T.make x).1 : Int)) ∧ MPost w V l k' (T.make x).2 w' := by
  have HH := Lib.hid h
  have HL := Lib.hid hl
  have HK := Lib.hid hk
  have HDL := Lib.hid dl
  have HDK := Lib.hid dk
  have HDLK := Lib.hid dlk
  have kT := h.blk
  unfold treeC TV.nv at kT
  have kN := h.row
  have hcap := h.cap
  have hmax := h.max
  have hsiz := h.siz
  unfold maxLen at hmax
  unfold TD.load at hL
  obtain ⟨fa, fc, ef⟩ := h.fre.form
  have hfl : (natsC T.free).length = T.free.length := by simp [natsC]
  rw [hfl] at ef
  have HFR : Hid (Row w 3 (.slice fa T.free.length fc) (natsC T.free)) := Lib.hid (ef ▸ h.fre)
  have HFE := Lib.hid ef
  rw [ef] at kT
  clear ef hfl hl hk dl dk dlk h
  have hNT : ¬ V.gN = V.bT := fun e => by have := HH.out.inj .N .T V.bT (by rw [← e]; rfl) rfl; cases this
  have o1 : ∀ b, b < w.heap.size → w.heap.size ≤ b → False := fun b h1 h2 => by omega
  have HO1 := Lib.hid o1
  clear o1
  rcases List.eq_nil_or_concat T.free with hfn | ⟨fr, j, hfj⟩
  · have hmk : T.make x = (T.nodes.length, { T with nodes := T.nodes ++ [x] }) := by
      unfold TD.make
      rw [hfn]
      rfl
    rw [hmk]
    have hlen : T.free.length = 0 := by rw [hfn]; rfl
    rw [hlen] at kT HFR HFE
    have g1 : ¬ (0 : Int) < ((0 : Nat) : Int) := by decide
    obtain ⟨i0, hi, hz0, hz3, hz4⟩ := info_parts info_node
    have hown : w.ownsRow 0 61 3 (.slice (some ⟨V.gN, 0, none⟩) T.nodes.length V.cN) T.nodes.length (V.C.toList.take (T.nodes.length * 3)) :=
      ⟨by simp; omega, .inr ⟨V.gN, V.cN, V.C, rfl, Nat.zero_le _, kN, hcap, by unfold maxLen; exact hmax, hsiz, rfl⟩⟩
    have HOWN := Lib.hid hown
    clear hmk hfr hown hfn
    go_enter Try.func30, Try.ntmps30
    go_upto_region 1 with (first
      | ((with_reducible refine stopBx 61 _ rfl ?_); unfold Stop; refine wpList_box_blk rfl 61 _ rfl _ (by go_simp; first | done | exact rfl) #[l, k', .int .i64 (x.count : Int)] rfl ?_; intro bX w1 hbX kX hu1 hs1))
    have kT1 := hu1.heap kT (fun h => h)
    have f1 := cell_of kT1 1 (v := .slice fa 0 fc) rfl
    have hbl : w.heap.size ≤ bX := Nat.le_of_eq hbX
    go_upto_region 7 with fail
    have hbT : V.bT < w.heap.size := heap_lt kT
    have hgNl : V.gN < w.heap.size := heap_lt kN
    have hXN : ¬ bX = V.gN := by omega
    have hTN : ¬ V.bT = V.gN := fun e => hNT e.symm
    have cT0 := cell_of kT1 0 (v := .slice (some ⟨V.gN, 0, none⟩) T.nodes.length V.cN) rfl
    have hnr : ∀ b, (Value.slice (some ⟨V.gN, 0, none⟩) T.nodes.length V.cN).ownBlock = some b → b = V.gN := fun b hb => by simp only [Value.ownBlock, Option.some.injEq] at hb; exact hb.symm
    have HNR := Lib.hid hnr
    have HKT1 := Lib.hid kT1
    have HU12 := Lib.hid hu1
    have HS1 := Lib.hid hs1
    clear hnr hs1
    refine wp_region_seq (fun v => Upd (fun b => b = V.gN) w1 v) (fun i => i != 10) [(0, true), (1, true), (2, true), (3, true), (4, true), (5, true), (6, false), (7, false), (8, true), (9, true), (10, false)] (by exact rfl) (by kernel_rfl) (by intro c a d v w h; cases d <;> exact h) ?_
    have hS : Upd (fun b => b = V.gN) w1 w1.drew := (Upd.refl _ w1).drew
    iterate 5 (((apply seq_val2 rfl (by rfl); (focus (intro w' hS'; have s0 := hS'.cell cT0 hTN; go_simp; (first | done | exact rfl | (rw [if_pos (by omega)]; done)))); (focus exact hS))); (try simp only [Act.put, zzT, zzO, zzS]))
    (apply seq_val2 rfl (by rfl); (focus (intro w' hS'; have s0 := hS'.cell cT0 hTN; exact exec_load_blk 61 _ rfl bX rfl 61 #[l, k', .int .i64 (x.count : Int)] (0, 0) _ (hS'.heap kX hXN) Try.underlying61 rfl (by kernel_rfl))); (focus exact hS))
    (try simp only [Act.put, zzT, zzO, zzS])
    refine seq_loud2 rfl (fun K hK => ?_)
    go_simp; obtain ⟨w2, hw2, k2, hS2, hz2, hS0⟩ : ∃ w2, (w1.alloc (.cells #[l, k', .int .i64 (x.count : Int)] 61)).drew = w2 ∧ w2.heap[w1.heap.size]? = some (.cells #[l, k', .int .i64 (x.count : Int)] 61 (0, 0)) ∧ Upd (fun b => b = V.gN) w1 w2 ∧ w2.heap.size = w1.heap.size + 1 ∧ Hid (Upd (fun _ => False) w1 w2) := ⟨_, rfl, heap_alloc_new w1 _, ((Upd.refl _ w1).alloc _).drew, by simp, Lib.hid ((Upd.refl _ w1).alloc _).drew⟩; rw [hw2]; clear hS; have hS := hS2; clear hS2 hw2; refine hK _ _ (fun _ => hS) ?_; clear hK K
    (try simp only [Act.put, zzT, zzO, zzS])
    refine seq_loud2 rfl (fun K hK => ?_)
    rw [if_pos (by rfl)]; refine wp_append_own2 _ _ _ 55 rfl 0 61 i0 _ 3 56 Try.underlying55 hi hz0 hz3 hz4 rfl (by decide) (Value.slice (some ⟨V.gN, 0, none⟩) T.nodes.length V.cN) _ _ rfl (ownsRow_upd (ownsRow_upd HOWN.out HU12.out (fun _ _ h => h)) hS0.out (fun _ _ h => h)) ⟨w1.heap.size, 0, none⟩ 1 1 [l, k', .int .i64 (x.count : Int)] rfl rfl (fun j u hj => by rw [Addr.add_lit, Nat.zero_add]; exact cell_of k2 j (by simpa using hj)) (by intro u hu; simp only [List.mem_cons, List.not_mem_nil, or_false] at hu; rcases hu with rfl | rfl | rfl; exact row_one HL.out; exact row_one HK.out; rfl) (by unfold maxLen; omega) (by omega) (Nat.zero_le _) ?_; intro v3 w3 ho3 hg3 hn3; have hS3 : Upd (fun b => b = V.gN) w1 w3 := hS.grown hg3 (fun b _ e => HNR.out b e); clear hS; have hS := hS3; clear hS3; obtain ⟨g4, c4', rfl⟩ := own_node ho3; have s33 := hS.cell cT0 hTN; have f33 := free_of (hS.heap HKT1.out hTN) 0; have hg3s := hg3.size; refine hK _ _ (fun _ => hS) ?_; clear hK K
    (try simp only [Act.put, zzT, zzO, zzS])
    iterate 2 (((apply seq_val2 rfl (by rfl); (focus (intro w' hS'; have s0 := hS'.cell cT0 hTN; go_simp; (first | done | exact rfl | (rw [if_pos (by omega)]; done)))); (focus exact hS))); (try simp only [Act.put, zzT, zzO, zzS]))
    refine seq_loud2 rfl (fun K hK => ?_)
    go_simp; refine hK _ _ (fun e => by cases e) ?_; clear hK K
    (try simp only [Act.put, zzT, zzO, zzS])
    refine seq_nil ?_
    have kR3 := hS.heap HKT1.out hTN
    have hb4 := heap_set kR3 0 (.slice (some ⟨g4, 0, none⟩) (T.nodes.length + 1) c4')
    have t3 := cell_of hb4 0 (v := .slice (some ⟨g4, 0, none⟩) (T.nodes.length + 1) c4') rfl
    have HB4 := Lib.hid hb4
    have HSS := Lib.hid hS
    have HO3 := Lib.hid ho3
    have HN3 := Lib.hid hn3
    have HZ2 := Lib.hid hz2
    have hg3z : w2.heap.size ≤ w3.heap.size := hg3.size
    clear s33 f33 hb4 hS ho3 hn3 hg3 kR3 hz2 hg3s cT0 f1 kT kN kT1 kX hu1 k2 hS0
    go_wp2
    go_ret
    have t1 : TA w1 V T := HH.out.upd HU12.out (fun _ _ _ h => h)
    refine ⟨ret_int (by simp), ?_⟩
    obtain ⟨_, hor⟩ := HO3.out
    rcases hor with ⟨_, h0⟩ | ⟨g, cap, cur, hv, _, hgg, hc1, hc2, hc3, hc4⟩
    · omega
    · injection hv with e1 e2 e3
      injection e1 with e1
      injection e1 with e1
      subst e1 e3
      have hgn : g4 = V.gN ∨ w1.heap.size ≤ g4 := by
        rcases HN3.out with e | e
        · simp only [Value.ownBlock, Option.some.injEq] at e; exact .inl e
        · simp only [Value.ownBlock, Option.some.injEq] at e; have := HZ2.out; omega
      have hw1 := HS1.out
      have hgT : g4 ≠ V.bT := fun e => by
        rcases hgn with e2 | e2
        · exact hNT (by rw [← e2, e])
        · omega
      have hU3 : Upd (fun b => b = V.bT ∨ b = V.gN) w1 (w3.setCell ⟨V.bT, 0, none⟩ (.slice (some ⟨g4, 0, none⟩) (T.nodes.length + 1) c4')) := (HSS.out.mono (fun b _ e => .inr e)).setCell (p := ⟨V.bT, 0, none⟩) (fun _ => .inl rfl) _
      have hw4 : Upd (fun b => b = V.bT ∨ b = V.gN) w _ := (HU12.out.mono (fun b _ e => e.elim)).then hU3 (fun b _ e => e)
      have lw : ∀ b, b < w.heap.size → (∀ s, V.own s ≠ some b) → ¬ (b = V.bT ∨ b = V.gN) := fun b _ hs e => by
        rcases e with e | e
        · exact hs .T (by rw [e]; rfl)
        · exact hs .N (by rw [e]; rfl)
      have dg : ∀ b, b < w.heap.size → (∀ s, V.own s ≠ some b) → b ≠ g4 := fun b hb hs e => by
        rcases hgn with e2 | e2
        · exact hs .N (by rw [e, e2]; rfl)
        · omega
      have t4 := t1.push x l k' g4 c4' cur hU3 (by rw [HB4.out]; show some (Obj.cells (#[_, Value.slice fa 0 fc, _, _]) _ _) = _; rw [HFE.out]) (by rw [heap_set_ne 0 _ hgT]; exact hgg) hc3 hc1 hc2 hc4 hgn
        (HL.out.upd hw4 (fun b hb => lw b (HL.out.lt hb) (HDL.out b hb))) (HK.out.upd hw4 (fun b hb => lw b (HK.out.lt hb) (HDK.out b hb)))
        (fun b hb => ⟨dg b (HL.out.lt hb) (HDL.out b hb), HDL.out b hb⟩) (fun b hb => ⟨dg b (HK.out.lt hb) (HDK.out b hb), HDK.out b hb⟩) HDLK.out
      refine ⟨_, t4, hw4.mono (fun b _ e => ?_), rfl, fun s b hb => ?_⟩
      · rcases e with e | e
        · exact ⟨.T, by rw [e]; rfl⟩
        · exact ⟨.N, by rw [e]; rfl⟩
      · cases s with
        | T => exact .inl ⟨.T, hb⟩
        | F => exact .inl ⟨.F, hb⟩
        | N =>
          have hb2 : some g4 = some b := hb
          injection hb2 with hb2
          rcases hgn with e2 | e2
          · exact .inl ⟨.N, by rw [← hb2, e2]; rfl⟩
          · right; right; right; omega
        | L q =>
          have hb2 : (if q = T.nodes.length then l else V.lv q).ownBlock = some b := hb
          by_cases e : q = T.nodes.length
          · rw [if_pos e] at hb2; exact .inr (.inl hb2)
          · rw [if_neg e] at hb2; exact .inl ⟨.L q, hb2⟩
        | K q =>
          have hb2 : (if q = T.nodes.length then k' else V.kv q).ownBlock = some b := hb
          by_cases e : q = T.nodes.length
          · rw [if_pos e] at hb2; exact .inr (.inr (.inl hb2))
          · rw [if_neg e] at hb2; exact .inl ⟨.K q, hb2⟩
  · rw [List.concat_eq_append] at hfj
    have hmk : T.make x = (j, { T with free := fr, nodes := T.nodes.set j x }) := by
      unfold TD.make
      rw [hfj]
      simp
    have hjl : j < T.nodes.length := hfr j (by rw [hfj]; simp)
    have hlen : T.free.length = fr.length + 1 := by rw [hfj]; simp
    rw [hmk]
    obtain ⟨g, hg⟩ := HFR.out.addr (by simp [natsC]; omega)
    have e1 : w.cell? ⟨g, fr.length, none⟩ = some (.int .i64 (j : Int)) := by
      have hR := HFR.out
      rw [hg] at hR
      have := hR.cells0 fr.length (natV j) (by rw [natsC, hfj]; simp)
      rwa [Nat.zero_add] at this
    subst hg
    rw [hlen] at kT HFR HFE
    have HFJ := Lib.hid hfj
    have hgT : ¬ g = V.bT := fun e => by
      have := HH.out.inj .F .T V.bT (by show V.fv.ownBlock = _; rw [HFE.out, ← e]; rfl) rfl
      cases this
    have hgN : ¬ g = V.gN := fun e => by
      have := HH.out.inj .F .N V.gN (by show V.fv.ownBlock = _; rw [HFE.out, ← e]; rfl) rfl
      cases this
    have g1 : (0 : Int) < ((fr.length + 1 : Nat) : Int) := by omega
    have hfc : fr.length ≤ fc := by have := HFR.out.len; omega
    clear hmk hfj hfr
    go_enter Try.func30, Try.ntmps30
    go_upto_region 1 with (first
      | ((with_reducible refine stopBx 61 _ rfl ?_); unfold Stop; refine wpList_box_blk rfl 61 _ rfl _ (by go_simp; first | done | exact rfl) #[l, k', .int .i64 (x.count : Int)] rfl ?_; intro bX w1 hbX kX hu1 hs1))
    have kT1 := hu1.heap kT (fun h => h)
    have kN1 := hu1.heap kN (fun h => h)
    have q1 := hu1.cell e1 (fun h => h)
    have f1 := cell_of kT1 1 (v := .slice (some ⟨g, 0, none⟩) (fr.length + 1) fc) rfl
    have hbl : w.heap.size ≤ bX := Nat.le_of_eq hbX
    clear e1
    go_upto_region 4 with fail
    go_upto_region 5 with (first
      | ((with_reducible refine stopSt 42 _ _ rfl ?_); unfold Stop; refine wpList_store_blk rfl 42 _ _ rfl V.bT 1 rfl (.slice (some ⟨g, 0, none⟩) fr.length fc) rfl _ #[.slice (some ⟨V.gN, 0, none⟩) T.nodes.length V.cN, .slice (some ⟨g, 0, none⟩) fr.length fc, .int .i64 (T.root : Int), .int .i64 T.bytes] _ kT1 (zzB rfl) (by kernel_rfl) rfl rfl ?_; intro w2 kT2 hu2 hs2))
    have hbT : V.bT < w.heap.size := heap_lt kT
    have hgNl : V.gN < w.heap.size := heap_lt kN
    have kN2 := hu2.heap kN1 hNT
    have kX2 := hu2.heap kX (show ¬ bX = V.bT by omega)
    obtain ⟨wd, hwd⟩ : ∃ wd, w2.drew = wd := ⟨_, rfl⟩
    have c0d : wd.cell? ⟨V.bT, 0, none⟩ = some (.slice (some ⟨V.gN, 0, none⟩) T.nodes.length V.cN) := by rw [← hwd]; exact cell_of kT2 0 rfl
    have HNd : Hid (wd.heap[V.gN]? = some (.cells V.C 61 (0, 0))) := Lib.hid (by rw [← hwd]; exact kN2)
    have HXd : Hid (wd.heap[bX]? = some (.cells #[l, k', .int .i64 (x.count : Int)] 61 (0, 0))) := Lib.hid (by rw [← hwd]; exact kX2)
    have HU12 : Hid (Upd (fun _ => False) w w1) := Lib.hid hu1
    have HU2d : Hid (Upd (fun b => b = V.bT) w1 wd) := Lib.hid (by rw [← hwd]; exact hu2.drew)
    have HT2d : Hid (wd.heap[V.bT]? = some (.cells #[.slice (some ⟨V.gN, 0, none⟩) T.nodes.length V.cN, .slice (some ⟨g, 0, none⟩) fr.length fc, .int .i64 (T.root : Int), .int .i64 T.bytes] 57 (0, 0))) := Lib.hid (by rw [← hwd]; exact kT2)
    have HONE : Hid (l.oneCell' = true ∧ k'.oneCell' = true) := Lib.hid ⟨row_one HL.out, row_one HK.out⟩
    have hj3 : j * 3 + 3 ≤ V.C.size := by omega
    clear kT kN kT1 kN1 kN2 kX2 kX kT2 hu1 hu2 q1 f1 hs1 hs2
    refine wp_region_seq (fun v => v = wd) (fun i => i != 7) [(0, true), (1, true), (2, true), (3, true), (4, true), (5, true), (6, true), (7, false)] (by exact rfl) (by kernel_rfl) (by intro c a d v w h; cases d <;> exact h) ?_
    rw [hwd]; have hS : wd = wd := rfl
    iterate 5 (((apply seq_val2 rfl (by rfl); (focus (intro w' hS'; subst hS'; go_simp; (first | done | exact rfl | (rw [if_pos (by omega)]; done)))); (focus exact hS))); (try simp only [Act.put, zzT, zzO, zzS]))
    (apply seq_val2 rfl (by rfl); (focus (intro w' hS'; subst hS'; exact exec_load_blk 61 _ rfl bX rfl 61 #[l, k', .int .i64 (x.count : Int)] (0, 0) _ HXd.out Try.underlying61 rfl (by kernel_rfl))); (focus exact hS))
    (try simp only [Act.put, zzT, zzO, zzS])
    (apply seq_val2 rfl (by rfl); (focus (intro w' hS'; subst hS'; go_simp; (first | done | exact rfl | (rw [if_pos (by omega)]; done)))); (focus exact hS))
    (try simp only [Act.put, zzT, zzO, zzS])
    refine seq_loud2 rfl (fun K hK => ?_)
    rw [if_pos (by rfl)]; refine wp_store_blk 61 _ _ rfl V.gN (j * 3) rfl (.agg #[l, k', .int .i64 (x.count : Int)]) rfl V.C (spl V.C (j * 3) [l, k', .int .i64 (x.count : Int)]) _ HNd.out (by show j * 3 + 3 ≤ V.C.size; omega) (by kernel_rfl) (ones3 HONE.out.1 HONE.out.2 rfl) rfl ?_; intro w4 k4 hu4 hs4; refine hK _ _ (fun e => by cases e) ?_; clear hK K
    (try simp only [Act.put, zzT, zzO, zzS])
    refine seq_nil ?_
    go_wp2
    go_ret
    refine ⟨rfl, ?_⟩
    have t1 : TA w1 V T := HH.out.upd HU12.out (fun _ _ _ h => h)
    have hN : (natsC fr).length = fr.length := by simp [natsC]
    have rf : Row w 3 (.slice (some ⟨g, 0, none⟩) fr.length fc) (natsC fr) := by
      have := HFR.out.cut (m := fr.length) (by omega)
      rw [HFJ.out] at this
      simpa [natsC] using this
    have t2 := t1.head (w' := wd) (.slice (some ⟨g, 0, none⟩) fr.length fc) fr T.root T.bytes (HU2d.out.mono (fun b _ e => .inl e)) HT2d.out ((rf.upd HU12.out (fun _ _ h => h)).upd HU2d.out (fun b hb e => by
      simp only [Value.ownBlock, Option.some.injEq] at hb
      exact hgT (by rw [hb, e]))) (fun b hb => .inl (by show V.fv.ownBlock = _; rw [HFE.out]; exact hb))
    obtain ⟨z0, z1, z2, z3, z4⟩ := spl3_at (C := V.C) (i := j * 3) (a := l) (b := k') (c := .int .i64 (x.count : Int)) hj3
    have hwd4 : Upd (fun b => b = V.bT ∨ b = V.gN) w1 w4 := (HU2d.out.mono (fun b _ e => .inl e)).then hu4 (fun b _ e => .inr e)
    have hw4 : Upd (fun b => b = V.bT ∨ b = V.gN) w w4 := (HU12.out.mono (fun b _ e => e.elim)).then hwd4 (fun b _ e => e)
    have lw : ∀ b, b < w.heap.size → (∀ s, V.own s ≠ some b) → ¬ (b = V.bT ∨ b = V.gN) := fun b _ hs e => by
      rcases e with e | e
      · exact hs .T (by rw [e]; rfl)
      · exact hs .N (by rw [e]; rfl)
    have rl : Row w4 9 l (strsC x.lines) := HL.out.upd hw4 (fun b hb => lw b (HL.out.lt hb) (HDL.out b hb))
    have rk : Row w4 3 k' (natsC x.kids) := HK.out.upd hw4 (fun b hb => lw b (HK.out.lt hb) (HDK.out b hb))
    have hfo : ∀ {s : Slot} {b : Nat}, TV.own { V with fv := .slice (some ⟨g, 0, none⟩) fr.length fc } s = some b → ∃ t, V.own t = some b := fun {s b} hs => by
      rcases head_own hs with e | e
      · exact ⟨s, e⟩
      · exact ⟨.F, by show V.fv.ownBlock = _; rw [HFE.out]; exact e⟩
    have t3 := t2.swap (k := j) (w' := w4) hjl x (C' := spl V.C (j * 3) [l, k', .int .i64 (x.count : Int)]) (l' := l) (k' := k') (hu4.mono (fun b _ e => .inl e)) k4 z3 (fun i hi => ⟨z4 _ (by omega), z4 _ (by omega), z4 _ (by omega)⟩) z0 z1 z2 rl rk
      (fun b hb => .inr (fun s hs => by obtain ⟨t, ht⟩ := hfo hs; exact HDL.out b hb t ht)) (fun b hb => .inr (fun s hs => by obtain ⟨t, ht⟩ := hfo hs; exact HDK.out b hb t ht)) HDLK.out
    refine ⟨_, t3, hw4.mono (fun b _ e => ?_), rfl, fun s b hb => ?_⟩
    · rcases e with e | e
      · exact ⟨.T, by rw [e]; rfl⟩
      · exact ⟨.N, by rw [e]; rfl⟩
    · rw [TV.set_own] at hb
      by_cases e1 : s = .L j
      · rw [if_pos e1] at hb; exact .inr (.inl hb)
      · rw [if_neg e1] at hb
        by_cases e2 : s = .K j
        · rw [if_pos e2] at hb; exact .inr (.inr (.inl hb))
        · rw [if_neg e2] at hb; exact .inl (hfo hb)
end Go.Proofs.Ytmklapbecdhnmaa
namespace Go.Proofs.Ytmklapbecdhnmaa
open Go.RowKit
theorem info_int1 : (Try.prog.info? 3).map (fun i => (i.zero, i.size, i.bytes)) = some (some (.int .i64 0), 1, 8) := by kernel_rfl
theorem info_str1 : (Try.prog.info? 9).map (fun i => (i.zero, i.size, i.bytes)) = some (some (.string ⟨#[]⟩), 1, 16) := by kernel_rfl
theorem row_lit {w : World} {e : TypeId} {b : Nat} {u : Value} (h : w.heap[b]? = some (.cells #[u] e (0, 0))) : Row w e (.slice (some ⟨b, 0, none⟩) 1 1) [u] := .of_cells h rfl rfl (Nat.le_refl _) (Nat.le_refl _) (by decide)
def DPost (w : World) (V : TV) (k : Nat) (T' : TD) (w' : World) : Prop := ∃ fv' C', TA w' { V.set k C' (.slice none 0 0) (.slice none 0 0) with fv := fv' } T' ∧
  Upd (fun b => b = V.gN ∨ b = V.bT ∨ V.own .F = some b) w w' ∧ (∀ b, fv'.ownBlock = some b → V.own .F = some b ∨ w.heap.size ≤ b)
set_option maxRecDepth 100000 in
set_option maxHeartbeats 8000000 in
theorem drop_any {w : World} {V : TV} {T : TD} (h : TA w V T) {k : Nat} (hk : k < T.nodes.length) (hL : T.load ≤ 10000000) :
    Calls Try.prog 37 #[.pointer (some ⟨V.bT, 0, none⟩), .int .i64 (k : Int)] w fun e w' => e = .returned (.tuple #[]) ∧ DPost w V k (T.drop k) w' := by
  have HH := Lib.hid h
  have kT := h.blk
  unfold treeC TV.nv at kT
  have kN := h.row
  have hcap := h.cap
  have hmax := h.max
  have hsiz := h.siz
  unfold maxLen at hmax
  unfold TD.load at hL
  have hfl : (natsC T.free).length = T.free.length := by simp [natsC]
  have hNT : ¬ V.bT = V.gN := fun e => by have := h.inj .N .T V.bT (by rw [e]; rfl) rfl; cases this
  have hTN : ¬ V.gN = V.bT := fun e => hNT e.symm
  have hk3 : k * 3 + 3 ≤ V.C.size := by omega
  obtain ⟨i0, hi, hz0, hz3, hz4⟩ := info_parts info_int1
  have c0 := cell_of kT 0 (v := .slice (some ⟨V.gN, 0, none⟩) T.nodes.length V.cN) rfl
  have HFL := Lib.hid hfl
  clear hfl h
  go_enter Try.func37, Try.ntmps37
  go_upto_region 1 with (first
    | ((with_reducible refine stopSt 61 _ _ rfl ?_); unfold Stop; refine wpList_store_blk rfl 61 _ _ rfl V.gN (k * 3) rfl (.agg #[.slice none 0 0, .slice none 0 0, .int .i64 0]) rfl V.C (spl V.C (k * 3) [.slice none 0 0, .slice none 0 0, .int .i64 0]) _ kN (by show k * 3 + 3 ≤ V.C.size; omega) (by kernel_rfl) rfl rfl ?_; intro w1 kN1 hu1 hs1))
  have HU1 := Lib.hid hu1
  have kT1 := hu1.heap kT hNT
  have HRF : Hid (Row w1 3 V.fv (natsC T.free)) := Lib.hid (HH.out.fre.upd hu1 (fun b hb e => by
    have := HH.out.inj .F .N V.gN (by rw [← e]; exact hb) rfl
    cases this))
  have HFO : Hid (∀ b, V.fv.ownBlock = some b → ¬ b = V.bT) := Lib.hid (fun b hb e => by
    have := HH.out.inj .F .T V.bT (by rw [← e]; exact hb) rfl
    cases this)
  have HS1 := Lib.hid hs1
  have HN1 := Lib.hid kN1
  have f1 := cell_of kT1 1 (v := V.fv) rfl
  have HT1 := Lib.hid kT1
  clear c0 hs1 kN1 kT1 hu1 kT kN
  go_wp2_with (first
    | ((with_reducible refine stopBS 42 _ _ rfl ?_); unfold Stop; refine wpList_sliceLit_blk rfl 42 3 1 _ rfl Try.underlying42 #[.int .i64 (k : Int)] (by go_simp; first | done | rfl | kernel_rfl) ?_; intro bS w2 hbS kS hu2 hs2)
    | (at_builtin; refine wpList_append_rows _ rfl _ _ 42 rfl 3 i0 _ 8 Try.underlying42 hi hz0 hz3 hz4 rfl V.fv rfl (natsC T.free) (HRF.out.upd hu2 (fun _ _ h => h)) (.slice (some ⟨bS, 0, none⟩) 1 1) rfl [.int .i64 (k : Int)] (row_lit kS) (fun u hu => by simp only [List.mem_cons, List.not_mem_nil, or_false] at hu; rw [hu]; rfl) (by rw [HFL.out]; unfold maxLen; show T.free.length + 1 ≤ _; omega) (by rw [HFL.out]; show (T.free.length + 1) * 8 ≤ _; omega) ?_; intro v3 w3 hr3 hu3 hn3; obtain ⟨a3, c3, e3⟩ := hr3.form; simp only [List.length_append, List.length_cons, List.length_nil, Nat.zero_add] at e3; subst e3; have kT3 := hu3.heap (hu2.heap HT1.out (fun h => h)) (fun e => HFO.out _ e rfl))
    | ((with_reducible refine stopSt 42 _ _ rfl ?_); unfold Stop; refine wpList_store_blk rfl 42 _ _ rfl V.bT 1 rfl (.slice a3 ((natsC T.free).length + 1) c3) rfl _ #[.slice (some ⟨V.gN, 0, none⟩) T.nodes.length V.cN, .slice a3 ((natsC T.free).length + 1) c3, .int .i64 (T.root : Int), .int .i64 T.bytes] _ kT3 (zzB rfl) (by kernel_rfl) rfl rfl ?_; intro w4 kT4 hu4 hs4))
  go_end0
  obtain ⟨v3, hv3⟩ : ∃ v3, Value.slice a3 ((natsC T.free).length + 1) c3 = v3 := ⟨_, rfl⟩
  rw [hv3] at kT4 hr3 hn3
  obtain ⟨z0, z1, z2, z3, z4⟩ := spl3_at (C := V.C) (i := k * 3) (a := .slice none 0 0) (b := .slice none 0 0) (c := .int .i64 0) hk3
  obtain ⟨t1, t2, t3⟩ := HH.out.turn hk ND.zero (C' := spl V.C (k * 3) [.slice none 0 0, .slice none 0 0, .int .i64 0]) (l' := .slice none 0 0) (k' := .slice none 0 0) (w' := w1) (HU1.out.mono (fun b _ e => .inl e)) HN1.out z3 (fun i hi => ⟨z4 _ (by omega), z4 _ (by omega), z4 _ (by omega)⟩) z0 z1 z2 (.nil _ _) (.nil _ _) (fun b hb => by cases hb) (fun b hb => by cases hb) (fun b hb => by cases hb)
  have hu23 : Upd (fun b => V.fv.ownBlock = some b) w1 w3 := (hu2.mono (fun b _ e => e.elim)).then hu3 (fun b _ e => e)
  have hu24 : Upd (fun b => b = V.bT ∨ V.fv.ownBlock = some b) w1 w4 := (hu23.mono (fun b _ e => .inr e)).then hu4 (fun b _ e => .inl e)
  have hgrow : w1.heap.size ≤ w2.heap.size := hu2.size
  have hz1 := HS1.out
  have near : ∀ b, v3.ownBlock = some b → V.fv.ownBlock = some b ∨ w1.heap.size ≤ b := fun b hb => (hn3 b hb).imp id (fun h => by omega)
  have lfv : ∀ b, V.fv.ownBlock = some b → b < w1.heap.size := fun b hb => HRF.out.lt hb
  have r4 : Row w4 3 v3 (natsC (T.free ++ [k])) := by
    have := hr3.upd hu4 (fun b hb e => by
      rcases near b hb with g | g
      · exact HFO.out b g e
      · have := heap_lt HT1.out; omega)
    simpa [natsC, natV] using this
  have t5 := t1.head (w' := w4) v3 (T.free ++ [k]) T.root T.bytes (hu24.mono (fun b _ e => e)) (by rw [put_len]; exact kT4) r4 near
  refine ⟨rfl, v3, spl V.C (k * 3) [.slice none 0 0, .slice none 0 0, .int .i64 0], t5, ((HU1.out.mono (fun b _ e => .inl e)).then hu24 (fun b _ e => ?_)), fun b hb => ?_⟩
  · rcases e with e | e
    · exact .inr (.inl e)
    · exact .inr (.inr e)
  · rcases near b hb with g | g
    · exact .inl g
    · right; omega
end Go.Proofs.Ytmklapbecdhnmaa
namespace Go.Proofs.Ytmklapbecdhnmaa
open Go.RowKit
section
variable {P : Program} {ops : Array Oper} {rest : List Oper} {op : Oper} {a : Act} {w : World} {Q : Exit → Act → World → Prop} {K : Act → World → Prop}
theorem run_loadVar_any (w : World) (A : Addr) (ty : TypeId) (cs : List Value) (d : TypeDesc) (hc : ∀ j v, cs[j]? = some v → w.cell? (A.add j) = some v)
    (hu : P.underlying ty = some d) (hd : d.isRow = true) (hi : (P.info? ty).map (·.size) = some cs.length) :
    (loadVar ty A).run P w = .ok (.agg cs.toArray) w := by
  have hl : (loadCells A cs.length).run P w = .ok cs.toArray w := run_loadCells_list (P := P) w A cs hc
  cases hq : P.info? ty with
  | none => simp [hq] at hi
  | some i =>
    have hs : i.size = cs.length := by simpa [hq] using hi
    have hagg : (isAgg ty).run P w = .ok true w := by
      unfold isAgg
      rw [Sem.run_bind, run_underlying hu w]
      cases d <;> simp_all
    simp [loadVar, Sem.run_bind, hagg, sizeOf, typeInfo, hq, hs, hl]
theorem wp_load_any (ty : TypeId) (x : Operand) (ho : op.op = .load ty x) (A : Addr) (hx : a.eval x = .pointer (some A)) (cs : List Value) (d : TypeDesc) (hc : ∀ j v, cs[j]? = some v → w.cell? (A.add j) = some v)
    (hu : P.underlying ty = some d) (hd : d.isRow = true) (hi : (P.info? ty).map (·.size) = some cs.length)
    (h : K (a.put op.dst (.agg cs.toArray)) w) : op.wp P a w K Q := by
  unfold Oper.wp execOp
  simp only [ho, hx, Instr.loadAt, Instr.sureAddr, Sem.run_bind, Sem.run_pure, Result.andThen_ok, run_loadVar_any w A ty cs d hc hu hd hi]
  exact h
theorem wpList_load_any (hgd : op.guard = none) (ty : TypeId) (x : Operand) (ho : op.op = .load ty x) (A : Addr) (hx : a.eval x = .pointer (some A)) (cs : List Value) (d : TypeDesc) (hc : ∀ j v, cs[j]? = some v → w.cell? (A.add j) = some v)
    (hu : P.underlying ty = some d) (hd : d.isRow = true) (hi : (P.info? ty).map (·.size) = some cs.length)
    (h : wpList P ops Q rest (a.put op.dst (.agg cs.toArray)) w) : wpList P ops Q (op :: rest) a w :=
  wpList_plain hgd fun _ hK => wp_load_any ty x ho A hx cs d hc hu hd hi (hK _ _ h)
end
theorem cells3 {w : World} {b o : Nat} {C : Array Value} {T : TypeId} {x y z : Value} (h : w.heap[b]? = some (.cells C T (0, 0))) (h0 : C[o]? = some x) (h1 : C[o + 1]? = some y) (h2 : C[o + 2]? = some z) : ∀ j v, [x, y, z][j]? = some v → w.cell? ((⟨b, o, none⟩ : Addr).add j) = some v := by
  intro j v hj
  rw [Addr.add_lit]
  match j, hj with
  | 0, hj => injection hj with hj; subst hj; exact cell_of h _ h0
  | 1, hj => injection hj with hj; subst hj; exact cell_of h _ h1
  | 2, hj => injection hj with hj; subst hj; exact cell_of h _ h2
def optI : Option Nat → Int
  | none => -1
  | some j => (j : Int)
set_option maxRecDepth 100000 in
set_option maxHeartbeats 8000000 in
theorem split_small {w : World} {V : TV} {T : TD} (h : TA w V T) {k : Nat} (hf : T.fine k) (hs : (T.get k).size ≤ 8) :
    Calls Try.prog 48 #[.pointer (some ⟨V.bT, 0, none⟩), .int .i64 (k : Int)] w fun e w' => e = .returned (.int .i64 (optI (T.split k).1)) ∧ TPost w V (T.split k).2 w' := by
  have HH := Lib.hid h
  have hk := hf.lt
  have hsp : T.split k = (none, T) := by unfold TD.split; rw [if_pos hs]
  rw [hsp]
  obtain ⟨la, lc, el⟩ := (h.lin k hk).form
  obtain ⟨ka, kc, ek⟩ := (h.kid k hk).form
  have hll : (strsC (T.get k).lines).length = (T.get k).lines.length := by simp [strsC]
  have hkl : (natsC (T.get k).kids).length = (T.get k).kids.length := by simp [natsC]
  rw [hll] at el
  rw [hkl] at ek
  obtain ⟨x0, x1, x2⟩ := h.cel k hk
  rw [el] at x0
  rw [ek] at x1
  have HC3 := Lib.hid (cells3 h.row x0 x1 x2)
  have hcap := h.cap
  have hmax := h.max
  unfold maxLen at hmax
  have kT := h.blk
  unfold treeC TV.nv at kT
  have c0 := cell_of kT 0 (v := .slice (some ⟨V.gN, 0, none⟩) T.nodes.length V.cN) rfl
  have hks : (T.get k).kids.length ≤ 100 := hf.kids
  have hlsz : (T.get k).lines.length ≤ 100 := hf.lines
  have hs2 : (T.get k).lines.length + (T.get k).kids.length ≤ 8 := hs
  have g8 : ((T.get k).lines.length : Int) + ((T.get k).kids.length : Int) ≤ 8 := by omega
  clear el ek hll hkl x0 x1 x2 h hf kT hs hsp
  go_enter Try.func48, Try.ntmps48
  go_upto_region 2 with (first
    | ((with_reducible refine stopLd 61 _ rfl ?_); unfold Stop; refine wpList_load_any rfl 61 _ rfl ⟨V.gN, k * 3, none⟩ rfl [.slice la (T.get k).lines.length lc, .slice ka (T.get k).kids.length kc, .int .i64 ((T.get k).count : Int)] _ HC3.out Try.underlying61 rfl (by kernel_rfl) ?_)
    | ((with_reducible refine stopAl 61 rfl ?_); unfold Stop; refine wpList_alloc_blk rfl 61 rfl (.agg #[.slice none 0 0, .slice none 0 0, .int .i64 0]) (by kernel_rfl) #[.slice none 0 0, .slice none 0 0, .int .i64 0] rfl ?_; intro bX w1 hbX kX hu1 hs1)
    | ((with_reducible refine stopSt 61 _ _ rfl ?_); unfold Stop; refine wpList_store_blk rfl 61 _ _ rfl bX 0 rfl (.agg #[.slice la (T.get k).lines.length lc, .slice ka (T.get k).kids.length kc, .int .i64 ((T.get k).count : Int)]) rfl _ #[.slice la (T.get k).lines.length lc, .slice ka (T.get k).kids.length kc, .int .i64 ((T.get k).count : Int)] _ kX (zzB rfl) (by kernel_rfl) rfl rfl ?_; intro w2 kX2 hu2 hs2'))
  have y0 := cell_of kX2 0 (v := .slice la (T.get k).lines.length lc) rfl
  have y1 := cell_of kX2 1 (v := .slice ka (T.get k).kids.length kc) rfl
  have HU2 : Hid (Upd (fun b => w.heap.size ≤ b) w w2) := Lib.hid ((hu1.mono (fun b _ e => e.elim)).then hu2 (fun b hb e => by omega))
  clear kX kX2 hu1 hu2 hs1 hs2' c0
  go_wp2_with (go_at_call 33; refine (size_any bX 0 la (T.get k).lines.length lc y0 ka (T.get k).kids.length kc y1 (by omega) (by omega)).mono ?_; rintro e w3 ⟨rfl, hq⟩)
  go_ret
  refine ⟨rfl, ?_⟩
  have hu := HU2.out.then (false_upd2 hq) (fun b _ e => e.elim)
  exact ⟨V, HH.out.newer hu, hu.mono (fun b hb e => by omega), rfl, fun s b hb => .inl ⟨s, hb⟩⟩
end Go.Proofs.Ytmklapbecdhnmaa
