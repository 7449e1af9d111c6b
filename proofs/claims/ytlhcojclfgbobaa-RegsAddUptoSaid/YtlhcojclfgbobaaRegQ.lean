/- The walk of the law RegsKeep. -/
import Derived.Test.YtlhcojclfgbobaaRegP
namespace Go.Proofs.Ytlhcojclfgbobaa
open Go.RowKit

theorem OpsAt.upd {F : Nat → Prop} {w w' : World} {a : Option Addr} {ts : List OpD} (h : OpsAt w a ts) (hu : Upd F w w') (hF : ∀ k, F k → ∀ o, w.cell? ⟨k, o, none⟩ = none) : OpsAt w' a ts := by
  intro i hi
  obtain ⟨b, o, lv, e, h0, h1, h2, h3, sa, sc, rfl, hs⟩ := h i hi
  have nb : ∀ {b o v}, w.cell? ⟨b, o, none⟩ = some v → ¬ F b := fun hc hf => by rw [hF _ hf] at hc; cases hc
  refine ⟨b, o, _, e, hu.cell h0 (nb h0), hu.cell h1 (nb h1), hu.cell h2 (nb h2), hu.cell h3 (nb h3), sa, sc, rfl, fun q hq => ?_⟩
  obtain ⟨b3, o3, e3, hc3⟩ := hs q hq
  exact ⟨b3, o3, e3, hu.cell hc3 (nb hc3)⟩
theorem OpsAt.below {w w' : World} {a : Option Addr} {ts : List OpD} (h : OpsAt w a ts) (hu : Below w.heap.size w w') : OpsAt w' a ts := h.upd (false_upd hu) (fun _ h => h.elim)

theorem heavy_len {ts : List OpD} (h : heavyO ts = false) : ts.length ≤ 100 := by
  simp only [heavyO, Bool.or_eq_false_iff, decide_eq_false_iff_not] at h
  omega

theorem getM_len {M : Int → Option RegD} (h : boundM M) (c : Int) : (getM M c).1.lines.length ≤ 20001 := by
  unfold getM
  split
  · simp
  · split
    · simp
    · rename_i r hr
      have h1 := h _ _ hr
      have := RegD.clone_size (r := r) (n := 20000) (by omega) (by omega)
      unfold sizeR at this
      simp only
      omega
theorem keep_other2 (M : Int → Option RegD) (nm : Int) (n0 : 0 ≤ nm) (n1 : nm ≤ 255) (x : RegD) : getM (yankM M (97 + nm % 26) x).2 (97 + (nm + 1) % 256 % 26) = getM M (97 + (nm + 1) % 256 % 26) := by
  have h := keep_other M (nm % 26).toNat ((nm + 1) % 256 % 26).toNat (by omega) (by omega) (by omega) x
  rwa [show (((nm % 26).toNat : Nat) : Int) = nm % 26 by omega, show ((((nm + 1) % 256 % 26).toNat : Nat) : Int) = (nm + 1) % 256 % 26 by omega] at h
theorem keep_hit2 (M : Int → Option RegD) (nm : Int) (n0 : 0 ≤ nm) (n1 : nm ≤ 255) (x : RegD) (h0 : (yankM M (97 + nm % 26) x).1 = 0) :
    getM (yankM M (97 + nm % 26) x).2 (97 + nm % 26) = (x.clone, 0) ∧ getM (yankM M (97 + nm % 26) x).2 34 = (x.clone, 0) ∧ getM (yankM M (97 + nm % 26) x).2 (97 + nm % 26 - 32) = (x.clone, 0) := by
  have e : (((nm % 26).toNat : Nat) : Int) = nm % 26 := by omega
  have h := keep_hit M (nm % 26).toNat (by omega) x (by rw [e]; exact h0)
  rw [e] at h
  rw [show 97 + nm % 26 - 32 = 65 + nm % 26 by omega]
  exact h
theorem keep_err2 (M : Int → Option RegD) (nm : Int) (n0 : 0 ≤ nm) (n1 : nm ≤ 255) (x : RegD) : (yankM M (97 + nm % 26) x).1 = 0 ∨ (yankM M (97 + nm % 26) x).1 = 112 := by
  have e : (((nm % 26).toNat : Nat) : Int) = nm % 26 := by omega
  have h := keep_err M (nm % 26).toNat (by omega) x
  rwa [e] at h
theorem letter2 (nm : Int) (n0 : 0 ≤ nm) (n1 : nm ≤ 255) : smallI (97 + nm % 26) = 97 + nm % 26 := by
  have e : (((nm % 26).toNat : Nat) : Int) = nm % 26 := by omega
  have h := (letter_facts (nm % 26).toNat (by omega)).1
  rwa [e] at h
theorem keep_blk {w w' : World} {b : Nat} {o : Obj} (h : w.heap[b]? = some o) (hb : Below w.heap.size w w') : w'.heap[b]? = some o := (false_upd hb).heap h (fun h => h)

theorem want_empty (w : World) (o : Obj) : RegAt (((w.alloc o).alloc (.cells #[.slice (some ⟨w.heap.size + 1 + 1, 0, none⟩) 1 1, .bool false] 24)).alloc (.cells #[.string ⟨#[]⟩] 9)) (.agg #[.slice (some ⟨w.heap.size + 1 + 1, 0, none⟩) 1 1, .bool false]) ⟨[[]], false⟩ := by
  refine ⟨_, rfl, _, 1, rfl, fun i hi => ?_⟩
  obtain rfl : i = 0 := by simp at hi; exact hi
  have h := heap_alloc_new ((w.alloc o).alloc (.cells #[.slice (some ⟨w.heap.size + 1 + 1, 0, none⟩) 1 1, .bool false] 24)) (.cells #[.string ⟨#[]⟩] 9)
  rw [show ((w.alloc o).alloc (.cells #[.slice (some ⟨w.heap.size + 1 + 1, 0, none⟩) 1 1, .bool false] 24)).heap.size = w.heap.size + 1 + 1 by simp] at h
  exact ⟨_, 0, rfl, cell_of h 0 rfl⟩

/-- Behind heavy, known, New. -/
structure Begun (w : World) (p mb : Nat) (W : World) : Prop where
  regs : RegsAt W p mb 0 (fun _ => none) (fun _ => none)
  below : Below w.heap.size w W
  new : w.heap.size ≤ mb

set_option maxRecDepth 100000 in
set_option maxHeartbeats 2000000 in
theorem keep_law (a : Option Addr) (cp : Nat) (ts : List OpD) (nm : Int) (n0 : 0 ≤ nm) (n1 : nm ≤ 255) (v : Value) (x : RegD) (w : World) (ht : OpsAt w a ts) (hn : ts.length ≤ 8796093021952) (hl : ∀ t ∈ ts, t.x.lines.length ≤ 8796093021952) (hy : ∀ t ∈ ts, ∀ y ∈ t.x.lines, y.length ≤ 1000000000000000)
    (hnm : ∀ t ∈ ts, 0 ≤ t.name ∧ t.name ≤ 255) (hb : ∀ t ∈ ts, sizeR t.x ≤ 2000000) (hx : RegAt w v x) (hxl : x.lines.length ≤ 8796093021952) (hxy : ∀ y ∈ x.lines, y.length ≤ 1000000000000000) (hxb : sizeR x ≤ 2000000) :
    Calls Try.prog 4 #[.slice a ts.length cp, .int .u8 nm, v] w fun e w' => e = .returned (.bool true) ∧ Below w.heap.size w w' := by
  obtain ⟨lv, rfl, hst⟩ := hx
  obtain ⟨la, lc, rfl, hcell⟩ := hst
  have hx0 : RegAt w (.agg #[.slice la x.lines.length lc, .bool x.whole]) x := ⟨_, rfl, la, lc, rfl, hcell⟩
  clear hcell
  obtain ⟨W0, hW0, hB0, k0, ht0, hx1⟩ : ∃ W, w.alloc (Obj.cells #[.slice la x.lines.length lc, .bool x.whole] 24) = W ∧ Below w.heap.size w W ∧ W.heap[w.heap.size]? = some (.cells #[.slice la x.lines.length lc, .bool x.whole] 24 (0, 0)) ∧ OpsAt W a ts ∧ RegAt W (.agg #[.slice la x.lines.length lc, .bool x.whole]) x :=
    ⟨_, rfl, (Below.refl _ _).alloc (Nat.le_refl _) _, heap_alloc_new _ _, ht.below ((Below.refl _ _).alloc (Nat.le_refl _) _), hx0.below ((Below.refl _ _).alloc (Nat.le_refl _) _)⟩
  have HB0 := Lib.hid hB0
  have HW0 := Lib.hid hW0
  have hst0 : StrsAt W0 (.slice la x.lines.length lc) x.lines := by obtain ⟨_, e, h⟩ := hx1; cases e; exact h
  have s0 := cell_of k0 0 (v := .slice la x.lines.length lc) rfl
  have s1 := cell_of k0 1 (v := .bool x.whole) rfl
  have HL := Lib.hid hl
  have HY := Lib.hid hy
  have HNM := Lib.hid hnm
  have HBB := Lib.hid hb
  have HXY := Lib.hid hxy
  clear ht hx0 hl hy hnm hb hxy hB0 hW0
  cases hh : heavyO ts
  · have hlen := heavy_len hh
    have Hh := Lib.hid hh
    clear hh
    go_enter Try.func4, Try.ntmps4
    cases hh2 : heavyO [⟨0, 0, x⟩]
    · have Hh2 := Lib.hid hh2
      clear hh2
      go_wp2_with (first
        | (go_at_call_of 9 (Value.slice a ts.length cp)
           rw [HW0.out]
           refine (heavy_any a cp ts _ ht0 hn HL.out HY.out).mono ?_
           rw [Hh.out]
           rintro e w3 ⟨rfl, rfl⟩)
        | (go_at_call_of 9 (Value.slice (some ⟨W0.heap.size, 0, none⟩) 1 1)
           have ho := op_one hst0 0 0
           have hB1 := (Below.refl W0.heap.size W0).alloc (Nat.le_refl _) (Obj.cells #[.int .u8 0, .int .u8 0, .slice la x.lines.length lc, .bool x.whole] 27)
           refine (heavy_any _ 1 [⟨0, 0, x⟩] _ ho (by simp) (by simp; exact hxl) (by simp; exact HXY.out)).mono ?_
           rw [Hh2.out]
           rintro e w3 ⟨rfl, rfl⟩)
        | (go_at_call 10; refine (known_any _).mono ?_; rintro e w1 ⟨rfl, hq⟩)
        | (go_at_call 11
           refine (New_any w1).mono ?_
           rintro e w2 ⟨rfl, hR, hB, hz⟩))
      have hq1 : Below W0.heap.size W0 w1 := ((Below.refl W0.heap.size W0).alloc (Nat.le_refl _) _).trans (hq.mono (by simp))
      have hq2 : Below W0.heap.size W0 w2 := hq1.trans (hB.mono hq1.size)
      have hp : w1.heap.size < w2.heap.size := by omega
      have ht2 := ht0.below hq2
      have hx2 := hx1.below hq2
      have hk2 := (false_upd hq2).heap k0 (fun h => h)
      have hwm : w.heap.size < w1.heap.size := by have := heap_lt k0; have := hq1.size; omega
      obtain ⟨p, hpe⟩ : ∃ p, w1.heap.size + 1 = p := ⟨_, rfl⟩
      obtain ⟨mb, hme⟩ : ∃ mb, w1.heap.size = mb := ⟨_, rfl⟩
      rw [hpe, hme] at hR
      rw [hpe]
      rw [hme] at hwm hp
      have HQ : Hid (Below w.heap.size w w2) := Lib.hid (HB0.out.trans (hq2.mono HB0.out.size))
      have HT := Lib.hid ht2
      have HX := Lib.hid hx2
      have HR0 := Lib.hid hR
      have HK := Lib.hid hk2
      clear hq hq1 hq2 hB hz hpe hme ht0 hx1 hst0 s0 s1 k0 hk2 ht2 hx2
      go_loopw [8] (fun iv wr => ∃ (i n : Nat) (V : Int → Option Value) (M : Int → Option RegD), i ≤ ts.length ∧ iv = .int .i64 i ∧ RegsAt wr p mb n V M ∧ boundM M ∧ n ≤ i * 20 ∧ Upd (fun k => k = mb) w2 wr) (fun iv _ => ts.length - (intOf iv).toNat)
      case atStart => exact ⟨0, 0, _, _, by omega, rfl, hR, (fun c r h => by cases h), by omega, Upd.refl _ _⟩
      case round =>
        obtain ⟨i, n, V, M, hi, rfl, hRr, hM, hni, hU⟩ := hrel
        by_cases hlt : i < ts.length
        · have ht3 := HT.out.upd hU HR0.out.nocell
          obtain ⟨b, o, lv, rfl, c0, c1, c2, c3, hs3⟩ := ht3 i hlt
          have hn1 := HNM.out ts[i] (List.getElem_mem hlt)
          have hn2 := HBB.out ts[i] (List.getElem_mem hlt)
          have hn3 := HL.out ts[i] (List.getElem_mem hlt)
          generalize ts[i] = t at *
          have HS3 := Lib.hid hs3
          obtain ⟨xa, xc, rfl, _⟩ := hs3
          have hmr : mb < wr.heap.size := hRr.map.lt
          have nb : ∀ {b o v}, wr.cell? ⟨b, o, none⟩ = some v → ¬ b = mb := fun hc hf => by rw [hRr.nocell _ hf] at hc; cases hc
          have nb0 := nb c0
          have C1 := Lib.hid c1
          have C2 := Lib.hid c2
          have C3 := Lib.hid c3
          have HRr := Lib.hid hRr
          have HU := Lib.hid hU
          have HMM := Lib.hid hM
          clear nb c0 c1 c2 c3 hRr hU hM ht3
          go_wp2
          refine wp_region_seq (fun v => Upd (fun k => k = mb) wr v) (fun i => i != 99) [(0, true), (1, true), (2, true), (3, true), (4, true), (5, true), (6, true), (7, true), (8, true), (9, true), (10, true), (11, false)] (by exact rfl) (by kernel_rfl) (by intro c a d v w h; cases d <;> exact h) ?_
          have hS : Upd (fun k => k = mb) wr wr.drew := (Upd.refl _ _).drew
          (apply seq_val (o := { dst := some 45, op := Op.move (Operand.tmp 7), type := 30, pos := "law.go:120", after := #[], guard := none }) rfl (by rfl); (focus (intro w' hS'; have g1 := hS'.cell C1.out nb0; have g2 := hS'.cell C2.out nb0; have g3 := hS'.cell C3.out nb0; go_simp; (first | done | exact rfl | (rw [if_pos (by omega)]; done)))); (focus exact hS))
          (try simp only [Act.put, List.setIfInBounds_toArray, List.set_cons_zero, List.set_cons_succ])
          (apply seq_val (o := { dst := some 46, op := Op.move (Operand.tmp 0), type := 28, pos := "law.go:120", after := #[], guard := none }) rfl (by rfl); (focus (intro w' hS'; have g1 := hS'.cell C1.out nb0; have g2 := hS'.cell C2.out nb0; have g3 := hS'.cell C3.out nb0; go_simp; (first | done | exact rfl | (rw [if_pos (by omega)]; done)))); (focus exact hS))
          (try simp only [Act.put, List.setIfInBounds_toArray, List.set_cons_zero, List.set_cons_succ])
          (apply seq_val (o := { dst := some 47, op := Op.move (Operand.tmp 8), type := 3, pos := "law.go:120", after := #[], guard := none }) rfl (by rfl); (focus (intro w' hS'; have g1 := hS'.cell C1.out nb0; have g2 := hS'.cell C2.out nb0; have g3 := hS'.cell C3.out nb0; go_simp; (first | done | exact rfl | (rw [if_pos (by omega)]; done)))); (focus exact hS))
          (try simp only [Act.put, List.setIfInBounds_toArray, List.set_cons_zero, List.set_cons_succ])
          (apply seq_val (o := { dst := some 48, op := Op.indexAddr 28 (Operand.tmp 46) (Operand.tmp 47), type := 0, pos := "law.go:120", after := #[{ on := 1, ground := Ground.data }, { on := 2, ground := Ground.data }], guard := none }) rfl (by rfl); (focus (intro w' hS'; have g1 := hS'.cell C1.out nb0; have g2 := hS'.cell C2.out nb0; have g3 := hS'.cell C3.out nb0; go_simp; (first | done | exact rfl | (rw [if_pos (by omega)]; done)))); (focus exact hS))
          (try simp only [Act.put, List.setIfInBounds_toArray, List.set_cons_zero, List.set_cons_succ])
          (apply seq_val (o := { dst := some 49, op := Op.fieldAddr 27 (Operand.tmp 48) 1, type := 0, pos := "law.go:120", after := #[{ on := 3, ground := Ground.data }], guard := none }) rfl (by rfl); (focus (intro w' hS'; have g1 := hS'.cell C1.out nb0; have g2 := hS'.cell C2.out nb0; have g3 := hS'.cell C3.out nb0; go_simp; (first | done | exact rfl | (rw [if_pos (by omega)]; done)))); (focus exact hS))
          (try simp only [Act.put, List.setIfInBounds_toArray, List.set_cons_zero, List.set_cons_succ])
          (apply seq_val (o := { dst := some 50, op := Op.load 5 (Operand.tmp 49), type := 5, pos := "law.go:120", after := #[{ on := 4, ground := Ground.data }], guard := none }) rfl (by rfl); (focus (intro w' hS'; have g1 := hS'.cell C1.out nb0; have g2 := hS'.cell C2.out nb0; have g3 := hS'.cell C3.out nb0; go_simp; (first | done | exact rfl | (rw [if_pos (by omega)]; done)))); (focus exact hS))
          (try simp only [Act.put, List.setIfInBounds_toArray, List.set_cons_zero, List.set_cons_succ])
          (apply seq_val (o := { dst := some 51, op := Op.move (Operand.tmp 0), type := 28, pos := "law.go:120", after := #[], guard := none }) rfl (by rfl); (focus (intro w' hS'; have g1 := hS'.cell C1.out nb0; have g2 := hS'.cell C2.out nb0; have g3 := hS'.cell C3.out nb0; go_simp; (first | done | exact rfl | (rw [if_pos (by omega)]; done)))); (focus exact hS))
          (try simp only [Act.put, List.setIfInBounds_toArray, List.set_cons_zero, List.set_cons_succ])
          (apply seq_val (o := { dst := some 52, op := Op.move (Operand.tmp 8), type := 3, pos := "law.go:120", after := #[], guard := none }) rfl (by rfl); (focus (intro w' hS'; have g1 := hS'.cell C1.out nb0; have g2 := hS'.cell C2.out nb0; have g3 := hS'.cell C3.out nb0; go_simp; (first | done | exact rfl | (rw [if_pos (by omega)]; done)))); (focus exact hS))
          (try simp only [Act.put, List.setIfInBounds_toArray, List.set_cons_zero, List.set_cons_succ])
          (apply seq_val (o := { dst := some 53, op := Op.indexAddr 28 (Operand.tmp 51) (Operand.tmp 52), type := 0, pos := "law.go:120", after := #[{ on := 6, ground := Ground.data }, { on := 7, ground := Ground.data }], guard := none }) rfl (by rfl); (focus (intro w' hS'; have g1 := hS'.cell C1.out nb0; have g2 := hS'.cell C2.out nb0; have g3 := hS'.cell C3.out nb0; go_simp; (first | done | exact rfl | (rw [if_pos (by omega)]; done)))); (focus exact hS))
          (try simp only [Act.put, List.setIfInBounds_toArray, List.set_cons_zero, List.set_cons_succ])
          (apply seq_val (o := { dst := some 54, op := Op.fieldAddr 27 (Operand.tmp 53) 2, type := 0, pos := "law.go:120", after := #[{ on := 8, ground := Ground.data }], guard := none }) rfl (by rfl); (focus (intro w' hS'; have g1 := hS'.cell C1.out nb0; have g2 := hS'.cell C2.out nb0; have g3 := hS'.cell C3.out nb0; go_simp; (first | done | exact rfl | (rw [if_pos (by omega)]; done)))); (focus exact hS))
          (try simp only [Act.put, List.setIfInBounds_toArray, List.set_cons_zero, List.set_cons_succ])
          (apply seq_val (o := { dst := some 55, op := Op.load 24 (Operand.tmp 54), type := 24, pos := "law.go:120", after := #[{ on := 9, ground := Ground.data }], guard := none }) rfl (by rfl); (focus (intro w' hS'; have g1 := hS'.cell C1.out nb0; have g2 := hS'.cell C2.out nb0; have g3 := hS'.cell C3.out nb0; go_simp; (first | done | exact rfl | (rw [if_pos (by omega)]; done)))); (focus exact hS))
          (try simp only [Act.put, List.setIfInBounds_toArray, List.set_cons_zero, List.set_cons_succ])
          apply seq_call (o := { dst := some 56, op := Op.call { callee := Callee.value (Operand.func 12), args := #[Operand.tmp 45, Operand.tmp 50, Operand.tmp 55], argTypes := #[30, 5, 24] }, type := 33, pos := "law.go:120", after := #[{ on := 0, ground := Ground.data }, { on := 5, ground := Ground.data }, { on := 10, ground := Ground.data }], guard := none }) (fun v w' => ∃ n' V', RegsAt w' p mb n' V' (yankM M t.name t.x).2 ∧ n' ≤ n + 20 ∧ Upd (fun k => k = mb) wr w') rfl (by rfl)
          focus (go_simp; (first | done | exact rfl | exact ⟨rfl, rfl⟩))
          focus ((have hh := Yank_any p mb n V M t.name hn1.1 hn1.2 _ t.x _ (HRr.out.upd ((Upd.refl (fun _ => False) wr).drew) (fun h => h) (fun h => h) (fun _ h => h.elim)) ⟨_, rfl, HS3.out.upd ((Upd.refl (fun _ => False) wr).drew) (fun _ _ _ h => h)⟩ (by omega) hn3 (fun r _ hr => ⟨by have := HMM.out _ _ hr; omega, by omega⟩); refine hh.mono ?_; rintro e w' ⟨n', V', rfl, hR', hn', hU'⟩; exact ⟨_, rfl, n', V', hR', hn', hS.then hU' (fun _ _ h => h)⟩))
          rintro v4 w4 ⟨n4, V4, hR4, hn4, hU4⟩; clear hS; refine ⟨fun _ => hU4, ?_⟩
          (try simp only [Act.put, List.setIfInBounds_toArray, List.set_cons_zero, List.set_cons_succ])
          refine seq_nil ?_
          go_wp2
          go_roundw
          case rel => exact ⟨i + 1, n4, V4, _, by omega, by go_num, hR4, yank_bound HMM.out hn2, by omega, HU.out.then hU4 (fun _ _ h => h)⟩
          case measure => simp [intOf]; omega
        · obtain rfl : i = ts.length := by omega
          have hRb : Below w.heap.size w wr := HQ.out.trans (hU.below HQ.out.size (fun k hk e => by omega))
          have hk3 := hU.heap HK.out (by omega)
          have hx3 := HX.out.upd hU HR0.out.nocell
          have hglen := getM_len hM (97 + (nm + 1) % 256 % 26)
          obtain ⟨g, hg⟩ : ∃ g, getM M (97 + (nm + 1) % 256 % 26) = g := ⟨_, rfl⟩
          obtain ⟨⟨gl, gw⟩, ge⟩ := g
          rw [hg] at hglen
          simp only at hglen
          have hg2 := keep_other2 M nm n0 n1 x
          rw [hg] at hg2
          have hE := keep_err2 M nm n0 n1 x
          have hH := keep_hit2 M nm n0 n1 x
          have Hsm := Lib.hid (letter2 nm n0 n1)
          obtain ⟨Y, hY⟩ : ∃ Y, yankM M (97 + nm % 26) x = Y := ⟨_, rfl⟩
          rw [hY] at hg2 hE hH
          obtain ⟨E, M2⟩ := Y
          simp only at hg2 hE hH
          have HG := Lib.hid hg
          have HG2 := Lib.hid hg2
          have HYY := Lib.hid hY
          have HH := Lib.hid hH
          have HRb := Lib.hid hRb
          clear hg hg2 hY hH hRb hM HT HQ HX HR0 HK hU
          have hsame : sameR ⟨gl, gw⟩ ⟨gl, gw⟩ = true := sameR_self _
          have Hsame := Lib.hid hsame
          clear hsame
          rcases hE with rfl | rfl
          · obtain ⟨h1, h2, h3⟩ := HH.out rfl
            have H1 := Lib.hid h1
            have H2 := Lib.hid h2
            have H3 := Lib.hid h3
            clear h1 h2 h3 HH
            by_cases hne : x.lines = []
            · have hz2 : ((x.lines.length : Int) == 0) = true := by simpa using hne
              have hcl : x.clone = ⟨[[]], false⟩ := by unfold RegD.clone; rw [if_pos hne]
              have Hcs : Hid (sameR x.clone ⟨[[]], false⟩ = true) := Lib.hid (by rw [hcl]; exact sameR_self _)
              have hclen : x.clone.lines.length ≤ 8796093021952 := by rw [hcl]; simp
              clear hne hcl
              go_wp2_with (first
              | (go_at_call 13
                 refine (Get_any p mb n V M (97 + (nm + 1) % 256 % 26) (by omega) (by omega) _ hRr).mono ?_
                 rw [HG.out]
                 rintro e w4 ⟨u, rfl, ⟨_, rfl, ga, gc, rfl, hgx⟩, hb4⟩
                 have hB5 := (Below.refl w4.heap.size w4).alloc (Nat.le_refl _) (Obj.cells #[.slice ga gl.length gc, .bool gw] 24)
                 have hB45 := hb4.trans (hB5.mono hb4.size)
                 have hR5 := hRr.below hB45
                 have hk5 := keep_blk hk3 hB45
                 have x5 := cell_of hk5 0 (v := .slice la x.lines.length lc) rfl
                 have x6 := cell_of hk5 1 (v := .bool x.whole) rfl
                 have hx5 := hx3.below hB45
                 have hwas : RegAt w4 (.agg #[.slice ga gl.length gc, .bool gw]) ⟨gl, gw⟩ := ⟨_, rfl, ga, gc, rfl, hgx⟩
                 have hwas5 := hwas.below hB5
                 have hkw := heap_alloc_new w4 (Obj.cells #[.slice ga gl.length gc, .bool gw] 24)
                 have hBB := HRb.out.trans (hB45.mono HRb.out.size)
                 have hsz5 : mb < w4.heap.size := by have := hb4.size; have := hRr.map.lt; omega
                 clear hRr hk3 hx3 hgx hwas hB5 hB45 hb4)
              | (go_at_call 12
                 refine (Yank_any p mb n V M (97 + nm % 26) (by omega) (by omega) _ x _ hR5 hx5 (by omega) hxl (fun r h _ => absurd Hsm.out h)).mono ?_
                 rw [HYY.out]
                 rintro e w6 ⟨n6, V6, rfl, hR6, hn6, hU6⟩
                 have hk6 := hU6.heap hk5 (by omega)
                 have hx6 := hx5.upd hU6 hR5.nocell
                 have hwas6 := hwas5.upd hU6 hR5.nocell
                 have hkw6 := hU6.heap hkw (by omega)
                 have hsz6 := hU6.size
                 have hB6 := hBB.trans (hU6.below hBB.size (fun k hk e => by omega))
                 clear hR5 hx5 hwas5 hkw hU6 hk5 x5 x6 hBB)
              | (go_at_call 13
                 refine (Get_any p mb n6 V6 M2 (97 + (nm + 1) % 256 % 26) (by omega) (by omega) _ hR6).mono ?_
                 rw [HG2.out]
                 rintro e w7 ⟨u, rfl, ⟨_, rfl, gb, gd, rfl, hgy⟩, hb7⟩
                 have hB8 := (Below.refl w7.heap.size w7).alloc (Nat.le_refl _) (Obj.cells #[.slice gb gl.length gd, .bool gw] 24)
                 have hB78 := hb7.trans (hB8.mono hb7.size)
                 have hR8 := hR6.below hB78
                 have hk8 := keep_blk hk6 hB78
                 have hkw8 := keep_blk hkw6 hB78
                 have hkn8 := heap_alloc_new w7 (Obj.cells #[.slice gb gl.length gd, .bool gw] 24)
                 have hx8 := hx6.below hB78
                 have hwas8 := hwas6.below hB78
                 have hnow : RegAt w7 (.agg #[.slice gb gl.length gd, .bool gw]) ⟨gl, gw⟩ := ⟨_, rfl, gb, gd, rfl, hgy⟩
                 have hnow8 := hnow.below hB8
                 have hBB := hB6.trans (hB78.mono hB6.size)
                 have a0 := cell_of hkw8 0 (v := .slice ga gl.length gc) rfl
                 have a1 := cell_of hkw8 1 (v := .bool gw) rfl
                 have b0 := cell_of hkn8 0 (v := .slice gb gl.length gd) rfl
                 have b1 := cell_of hkn8 1 (v := .bool gw) rfl
                 clear hR6 hk6 hx6 hwas6 hkw6 hgy hnow hB8 hB78 hb7 hB6)
              | (go_at_call 14
                 refine (RSame_any _ _ _ _ _ hwas8 hnow8 (by simp only; omega) (by simp only; omega)).mono ?_
                 rw [Hsame.out]
                 rintro e w9 ⟨rfl, hb9⟩
                 have hB9 := hBB.trans (hb9.mono hBB.size)
                 have hR9 := hR8.below hb9
                 have hk9 := keep_blk hk8 hb9
                 have hx9 := hx8.below hb9
                 clear hwas8 hnow8 hBB hR8 hk8 hx8 hkw8 hkn8 a0 a1 b0 b1)
              | (go_at_call 13
                 refine (Get_any p mb n6 V6 M2 (97 + nm % 26) (by omega) (by omega) _ hR9).mono ?_
                 rw [H1.out]
                 rintro e w10 ⟨u, rfl, ⟨_, rfl, pa, pc, rfl, hpx⟩, hb10⟩
                 have hBq := (Below.refl w10.heap.size w10).alloc (Nat.le_refl _) (Obj.cells #[.slice pa x.clone.lines.length pc, .bool x.clone.whole] 24)
                 have hBr := hb10.trans (hBq.mono hb10.size)
                 have hR10 := hR9.below hBr
                 have hk10 := keep_blk hk9 hBr
                 have hx10 := hx9.below hBr
                 have hp10 := (show RegAt w10 (.agg #[.slice pa x.clone.lines.length pc, .bool x.clone.whole]) x.clone from ⟨_, rfl, pa, pc, rfl, hpx⟩).below hBq
                 have hkp10 := heap_alloc_new w10 (Obj.cells #[.slice pa x.clone.lines.length pc, .bool x.clone.whole] 24)
                 have hB10 := hB9.trans (hBr.mono hB9.size)
                 clear hR9 hk9 hx9 hpx hBq hBr hb10 hB9)
              | (go_at_call 13
                 refine (Get_any p mb n6 V6 M2 34 (by omega) (by omega) _ hR10).mono ?_
                 rw [H2.out]
                 rintro e w11 ⟨u, rfl, ⟨_, rfl, qa, qc, rfl, hqx⟩, hb11⟩
                 have hBq := (Below.refl w11.heap.size w11).alloc (Nat.le_refl _) (Obj.cells #[.slice qa x.clone.lines.length qc, .bool x.clone.whole] 24)
                 have hBr := hb11.trans (hBq.mono hb11.size)
                 have hR11 := hR10.below hBr
                 have hk11 := keep_blk hk10 hBr
                 have hx11 := hx10.below hBr
                 have hp11 := hp10.below hBr
                 have hkp11 := keep_blk hkp10 hBr
                 have hq11 := (show RegAt w11 (.agg #[.slice qa x.clone.lines.length qc, .bool x.clone.whole]) x.clone from ⟨_, rfl, qa, qc, rfl, hqx⟩).below hBq
                 have hkq11 := heap_alloc_new w11 (Obj.cells #[.slice qa x.clone.lines.length qc, .bool x.clone.whole] 24)
                 have hB11 := hB10.trans (hBr.mono hB10.size)
                 clear hR10 hk10 hx10 hp10 hkp10 hqx hBq hBr hb11 hB10)
              | (go_at_call 13
                 refine (Get_any p mb n6 V6 M2 (97 + nm % 26 - 32) (by omega) (by omega) _ hR11).mono ?_
                 rw [H3.out]
                 rintro e w12 ⟨u, rfl, ⟨_, rfl, ra, rc, rfl, hrx⟩, hb12⟩
                 have hBq := (Below.refl w12.heap.size w12).alloc (Nat.le_refl _) (Obj.cells #[.slice ra x.clone.lines.length rc, .bool x.clone.whole] 24)
                 have hBr := hb12.trans (hBq.mono hb12.size)
                 have hk12 := keep_blk hk11 hBr
                 have hx12 := hx11.below hBr
                 have hp12 := hp11.below hBr
                 have hkp12 := keep_blk hkp11 hBr
                 have hq12 := hq11.below hBr
                 have hkq12 := keep_blk hkq11 hBr
                 have hr12 := (show RegAt w12 (.agg #[.slice ra x.clone.lines.length rc, .bool x.clone.whole]) x.clone from ⟨_, rfl, ra, rc, rfl, hrx⟩).below hBq
                 have hkr12 := heap_alloc_new w12 (Obj.cells #[.slice ra x.clone.lines.length rc, .bool x.clone.whole] 24)
                 have hB12 := hB11.trans (hBr.mono hB11.size)
                 have y0 := cell_of hk12 0 (v := .slice la x.lines.length lc) rfl
                 have y1 := cell_of hk12 1 (v := .bool x.whole) rfl
                 have z0 := fun o => ((Upd.refl (fun _ => False) (w12.alloc (Obj.cells #[.slice ra x.clone.lines.length rc, .bool x.clone.whole] 24))).alloc o).cell y0 (fun h => h)
                 have z1 := fun o => ((Upd.refl (fun _ => False) (w12.alloc (Obj.cells #[.slice ra x.clone.lines.length rc, .bool x.clone.whole] 24))).alloc o).cell y1 (fun h => h)
                 have p0 := fun o o2 => (((Upd.refl (fun _ => False) (w12.alloc (Obj.cells #[.slice ra x.clone.lines.length rc, .bool x.clone.whole] 24))).alloc o).alloc o2).cell (cell_of hkp12 0 (v := .slice pa x.clone.lines.length pc) rfl) (fun h => h)
                 have p1 := fun o o2 => (((Upd.refl (fun _ => False) (w12.alloc (Obj.cells #[.slice ra x.clone.lines.length rc, .bool x.clone.whole] 24))).alloc o).alloc o2).cell (cell_of hkp12 1 (v := .bool x.clone.whole) rfl) (fun h => h)
                 clear hR11 hk11 hx11 hp11 hkp11 hq11 hkq11 hrx hBq hBr hb12 hB11 hk12 hkp12)
              | (go_at_call 14
                 have hb0 := ((Below.refl (w12.alloc (Obj.cells #[.slice ra x.clone.lines.length rc, .bool x.clone.whole] 24)).heap.size (w12.alloc (Obj.cells #[.slice ra x.clone.lines.length rc, .bool x.clone.whole] 24))).alloc (Nat.le_refl _) (Obj.cells #[.slice (some ⟨w12.heap.size + 1 + 1, 0, none⟩) 1 1, .bool false] 24)).alloc (by simp) (Obj.cells #[.string ⟨#[]⟩] 9)
                 have hw := want_empty w12 (Obj.cells #[.slice ra x.clone.lines.length rc, .bool x.clone.whole] 24)
                 have hB13 := hB12.trans (hb0.mono hB12.size)
                 have kw := heap_old (heap_new2 w12 (Obj.cells #[.slice ra x.clone.lines.length rc, .bool x.clone.whole] 24) #[.slice (some ⟨w12.heap.size + 1 + 1, 0, none⟩) 1 1, .bool false] 24) (Obj.cells #[.string ⟨#[]⟩] 9)
                 have kq := keep_blk hkq12 hb0
                 have kr := keep_blk hkr12 hb0
                 refine (RSame_any _ _ x.clone ⟨[[]], false⟩ _ (hp12.below hb0) hw hclen (by simp)).mono ?_
                 rw [Hcs.out]
                 rintro e w13 ⟨rfl, hb13⟩
                 have hq13 := (hq12.below hb0).below hb13
                 have hr13 := (hr12.below hb0).below hb13
                 have hw13 := hw.below hb13
                 have hB14 := hB13.trans (hb13.mono hB13.size)
                 have kw13 := keep_blk kw hb13
                 have kq13 := keep_blk kq hb13
                 have kr13 := keep_blk kr hb13
                 have v0 := cell_of kw13 0 (v := .slice (some ⟨w12.heap.size + 1 + 1, 0, none⟩) 1 1) rfl
                 have v1 := cell_of kw13 1 (v := .bool false) rfl
                 have q0 := cell_of kq13 0 (v := .slice qa x.clone.lines.length qc) rfl
                 have q1 := cell_of kq13 1 (v := .bool x.clone.whole) rfl
                 clear hx12 hp12 hq12 hr12 hw hb0 kw kq kr hkq12 hkr12 hb13 hB13 hB12 y0 y1 z0 z1 p0 p1)
              | (go_at_call 14
                 refine (RSame_any _ _ x.clone ⟨[[]], false⟩ _ hq13 hw13 hclen (by simp)).mono ?_
                 rw [Hcs.out]
                 rintro e w15 ⟨rfl, hb15⟩
                 have hr15 := hr13.below hb15
                 have hw15 := hw13.below hb15
                 have hB15 := hB14.trans (hb15.mono hB14.size)
                 have kw15 := keep_blk kw13 hb15
                 have kr15 := keep_blk kr13 hb15
                 have v0 := cell_of kw15 0 (v := .slice (some ⟨w12.heap.size + 1 + 1, 0, none⟩) 1 1) rfl
                 have v1 := cell_of kw15 1 (v := .bool false) rfl
                 have r0 := cell_of kr15 0 (v := .slice ra x.clone.lines.length rc) rfl
                 have r1 := cell_of kr15 1 (v := .bool x.clone.whole) rfl
                 clear hq13 hr13 hw13 kw13 kq13 kr13 q0 q1 hB14 hb15)
              | (go_at_call 14
                 refine (RSame_any _ _ x.clone ⟨[[]], false⟩ _ hr15 hw15 hclen (by simp)).mono ?_
                 rw [Hcs.out]
                 rintro e w17 ⟨rfl, hb17⟩
                 have hB17 := hB15.trans (hb17.mono hB15.size)
                 clear hr15 hw15 hB15))
              all_goals go_ret
              all_goals exact ⟨rfl, hB17⟩
            · have hz2 : ((x.lines.length : Int) == 0) = false := by simpa using hne
              have Hc := Lib.hid (clone_same hne)
              have Hcs : Hid (sameR x.clone x = true) := Lib.hid (by rw [Hc.out]; exact sameR_self x)
              have hclen : x.clone.lines.length ≤ 8796093021952 := by rw [Hc.out]; exact hxl
              clear hne
              go_wp2_with (first
              | (go_at_call 13
                 refine (Get_any p mb n V M (97 + (nm + 1) % 256 % 26) (by omega) (by omega) _ hRr).mono ?_
                 rw [HG.out]
                 rintro e w4 ⟨u, rfl, ⟨_, rfl, ga, gc, rfl, hgx⟩, hb4⟩
                 have hB5 := (Below.refl w4.heap.size w4).alloc (Nat.le_refl _) (Obj.cells #[.slice ga gl.length gc, .bool gw] 24)
                 have hB45 := hb4.trans (hB5.mono hb4.size)
                 have hR5 := hRr.below hB45
                 have hk5 := keep_blk hk3 hB45
                 have x5 := cell_of hk5 0 (v := .slice la x.lines.length lc) rfl
                 have x6 := cell_of hk5 1 (v := .bool x.whole) rfl
                 have hx5 := hx3.below hB45
                 have hwas : RegAt w4 (.agg #[.slice ga gl.length gc, .bool gw]) ⟨gl, gw⟩ := ⟨_, rfl, ga, gc, rfl, hgx⟩
                 have hwas5 := hwas.below hB5
                 have hkw := heap_alloc_new w4 (Obj.cells #[.slice ga gl.length gc, .bool gw] 24)
                 have hBB := HRb.out.trans (hB45.mono HRb.out.size)
                 have hsz5 : mb < w4.heap.size := by have := hb4.size; have := hRr.map.lt; omega
                 clear hRr hk3 hx3 hgx hwas hB5 hB45 hb4)
              | (go_at_call 12
                 refine (Yank_any p mb n V M (97 + nm % 26) (by omega) (by omega) _ x _ hR5 hx5 (by omega) hxl (fun r h _ => absurd Hsm.out h)).mono ?_
                 rw [HYY.out]
                 rintro e w6 ⟨n6, V6, rfl, hR6, hn6, hU6⟩
                 have hk6 := hU6.heap hk5 (by omega)
                 have hx6 := hx5.upd hU6 hR5.nocell
                 have hwas6 := hwas5.upd hU6 hR5.nocell
                 have hkw6 := hU6.heap hkw (by omega)
                 have hsz6 := hU6.size
                 have hB6 := hBB.trans (hU6.below hBB.size (fun k hk e => by omega))
                 clear hR5 hx5 hwas5 hkw hU6 hk5 x5 x6 hBB)
              | (go_at_call 13
                 refine (Get_any p mb n6 V6 M2 (97 + (nm + 1) % 256 % 26) (by omega) (by omega) _ hR6).mono ?_
                 rw [HG2.out]
                 rintro e w7 ⟨u, rfl, ⟨_, rfl, gb, gd, rfl, hgy⟩, hb7⟩
                 have hB8 := (Below.refl w7.heap.size w7).alloc (Nat.le_refl _) (Obj.cells #[.slice gb gl.length gd, .bool gw] 24)
                 have hB78 := hb7.trans (hB8.mono hb7.size)
                 have hR8 := hR6.below hB78
                 have hk8 := keep_blk hk6 hB78
                 have hkw8 := keep_blk hkw6 hB78
                 have hkn8 := heap_alloc_new w7 (Obj.cells #[.slice gb gl.length gd, .bool gw] 24)
                 have hx8 := hx6.below hB78
                 have hwas8 := hwas6.below hB78
                 have hnow : RegAt w7 (.agg #[.slice gb gl.length gd, .bool gw]) ⟨gl, gw⟩ := ⟨_, rfl, gb, gd, rfl, hgy⟩
                 have hnow8 := hnow.below hB8
                 have hBB := hB6.trans (hB78.mono hB6.size)
                 have a0 := cell_of hkw8 0 (v := .slice ga gl.length gc) rfl
                 have a1 := cell_of hkw8 1 (v := .bool gw) rfl
                 have b0 := cell_of hkn8 0 (v := .slice gb gl.length gd) rfl
                 have b1 := cell_of hkn8 1 (v := .bool gw) rfl
                 clear hR6 hk6 hx6 hwas6 hkw6 hgy hnow hB8 hB78 hb7 hB6)
              | (go_at_call 14
                 refine (RSame_any _ _ _ _ _ hwas8 hnow8 (by simp only; omega) (by simp only; omega)).mono ?_
                 rw [Hsame.out]
                 rintro e w9 ⟨rfl, hb9⟩
                 have hB9 := hBB.trans (hb9.mono hBB.size)
                 have hR9 := hR8.below hb9
                 have hk9 := keep_blk hk8 hb9
                 have hx9 := hx8.below hb9
                 clear hwas8 hnow8 hBB hR8 hk8 hx8 hkw8 hkn8 a0 a1 b0 b1)
              | (go_at_call 13
                 refine (Get_any p mb n6 V6 M2 (97 + nm % 26) (by omega) (by omega) _ hR9).mono ?_
                 rw [H1.out]
                 rintro e w10 ⟨u, rfl, ⟨_, rfl, pa, pc, rfl, hpx⟩, hb10⟩
                 have hBq := (Below.refl w10.heap.size w10).alloc (Nat.le_refl _) (Obj.cells #[.slice pa x.clone.lines.length pc, .bool x.clone.whole] 24)
                 have hBr := hb10.trans (hBq.mono hb10.size)
                 have hR10 := hR9.below hBr
                 have hk10 := keep_blk hk9 hBr
                 have hx10 := hx9.below hBr
                 have hp10 := (show RegAt w10 (.agg #[.slice pa x.clone.lines.length pc, .bool x.clone.whole]) x.clone from ⟨_, rfl, pa, pc, rfl, hpx⟩).below hBq
                 have hkp10 := heap_alloc_new w10 (Obj.cells #[.slice pa x.clone.lines.length pc, .bool x.clone.whole] 24)
                 have hB10 := hB9.trans (hBr.mono hB9.size)
                 clear hR9 hk9 hx9 hpx hBq hBr hb10 hB9)
              | (go_at_call 13
                 refine (Get_any p mb n6 V6 M2 34 (by omega) (by omega) _ hR10).mono ?_
                 rw [H2.out]
                 rintro e w11 ⟨u, rfl, ⟨_, rfl, qa, qc, rfl, hqx⟩, hb11⟩
                 have hBq := (Below.refl w11.heap.size w11).alloc (Nat.le_refl _) (Obj.cells #[.slice qa x.clone.lines.length qc, .bool x.clone.whole] 24)
                 have hBr := hb11.trans (hBq.mono hb11.size)
                 have hR11 := hR10.below hBr
                 have hk11 := keep_blk hk10 hBr
                 have hx11 := hx10.below hBr
                 have hp11 := hp10.below hBr
                 have hkp11 := keep_blk hkp10 hBr
                 have hq11 := (show RegAt w11 (.agg #[.slice qa x.clone.lines.length qc, .bool x.clone.whole]) x.clone from ⟨_, rfl, qa, qc, rfl, hqx⟩).below hBq
                 have hkq11 := heap_alloc_new w11 (Obj.cells #[.slice qa x.clone.lines.length qc, .bool x.clone.whole] 24)
                 have hB11 := hB10.trans (hBr.mono hB10.size)
                 clear hR10 hk10 hx10 hp10 hkp10 hqx hBq hBr hb11 hB10)
              | (go_at_call 13
                 refine (Get_any p mb n6 V6 M2 (97 + nm % 26 - 32) (by omega) (by omega) _ hR11).mono ?_
                 rw [H3.out]
                 rintro e w12 ⟨u, rfl, ⟨_, rfl, ra, rc, rfl, hrx⟩, hb12⟩
                 have hBq := (Below.refl w12.heap.size w12).alloc (Nat.le_refl _) (Obj.cells #[.slice ra x.clone.lines.length rc, .bool x.clone.whole] 24)
                 have hBr := hb12.trans (hBq.mono hb12.size)
                 have hk12 := keep_blk hk11 hBr
                 have hx12 := hx11.below hBr
                 have hp12 := hp11.below hBr
                 have hkp12 := keep_blk hkp11 hBr
                 have hq12 := hq11.below hBr
                 have hkq12 := keep_blk hkq11 hBr
                 have hr12 := (show RegAt w12 (.agg #[.slice ra x.clone.lines.length rc, .bool x.clone.whole]) x.clone from ⟨_, rfl, ra, rc, rfl, hrx⟩).below hBq
                 have hkr12 := heap_alloc_new w12 (Obj.cells #[.slice ra x.clone.lines.length rc, .bool x.clone.whole] 24)
                 have hB12 := hB11.trans (hBr.mono hB11.size)
                 have y0 := cell_of hk12 0 (v := .slice la x.lines.length lc) rfl
                 have y1 := cell_of hk12 1 (v := .bool x.whole) rfl
                 have z0 := fun o => ((Upd.refl (fun _ => False) (w12.alloc (Obj.cells #[.slice ra x.clone.lines.length rc, .bool x.clone.whole] 24))).alloc o).cell y0 (fun h => h)
                 have z1 := fun o => ((Upd.refl (fun _ => False) (w12.alloc (Obj.cells #[.slice ra x.clone.lines.length rc, .bool x.clone.whole] 24))).alloc o).cell y1 (fun h => h)
                 have p0 := fun o => ((Upd.refl (fun _ => False) (w12.alloc (Obj.cells #[.slice ra x.clone.lines.length rc, .bool x.clone.whole] 24))).alloc o).cell (cell_of hkp12 0 (v := .slice pa x.clone.lines.length pc) rfl) (fun h => h)
                 have p1 := fun o => ((Upd.refl (fun _ => False) (w12.alloc (Obj.cells #[.slice ra x.clone.lines.length rc, .bool x.clone.whole] 24))).alloc o).cell (cell_of hkp12 1 (v := .bool x.clone.whole) rfl) (fun h => h)
                 clear hR11 hk11 hx11 hp11 hkp11 hq11 hkq11 hrx hBq hBr hb12 hB11 hk12 hkp12)
              | (go_at_call 14
                 have hb0 := (Below.refl (w12.alloc (Obj.cells #[.slice ra x.clone.lines.length rc, .bool x.clone.whole] 24)).heap.size (w12.alloc (Obj.cells #[.slice ra x.clone.lines.length rc, .bool x.clone.whole] 24))).alloc (Nat.le_refl _) (Obj.cells #[.slice la x.lines.length lc, .bool x.whole] 24)
                 have hw := hx12.below hb0
                 have hB13 := hB12.trans (hb0.mono hB12.size)
                 have kw := heap_new2 w12 (Obj.cells #[.slice ra x.clone.lines.length rc, .bool x.clone.whole] 24) #[.slice la x.lines.length lc, .bool x.whole] 24
                 have kq := keep_blk hkq12 hb0
                 have kr := keep_blk hkr12 hb0
                 refine (RSame_any _ _ x.clone x _ (hp12.below hb0) hw hclen hxl).mono ?_
                 rw [Hcs.out]
                 rintro e w13 ⟨rfl, hb13⟩
                 have hq13 := (hq12.below hb0).below hb13
                 have hr13 := (hr12.below hb0).below hb13
                 have hw13 := hw.below hb13
                 have hB14 := hB13.trans (hb13.mono hB13.size)
                 have kw13 := keep_blk kw hb13
                 have kq13 := keep_blk kq hb13
                 have kr13 := keep_blk kr hb13
                 have v0 := cell_of kw13 0 (v := .slice la x.lines.length lc) rfl
                 have v1 := cell_of kw13 1 (v := .bool x.whole) rfl
                 have q0 := cell_of kq13 0 (v := .slice qa x.clone.lines.length qc) rfl
                 have q1 := cell_of kq13 1 (v := .bool x.clone.whole) rfl
                 clear hx12 hp12 hq12 hr12 hw hb0 kw kq kr hkq12 hkr12 hb13 hB13 hB12 y0 y1 z0 z1 p0 p1)
              | (go_at_call 14
                 refine (RSame_any _ _ x.clone x _ hq13 hw13 hclen hxl).mono ?_
                 rw [Hcs.out]
                 rintro e w15 ⟨rfl, hb15⟩
                 have hr15 := hr13.below hb15
                 have hw15 := hw13.below hb15
                 have hB15 := hB14.trans (hb15.mono hB14.size)
                 have kw15 := keep_blk kw13 hb15
                 have kr15 := keep_blk kr13 hb15
                 have v0 := cell_of kw15 0 (v := .slice la x.lines.length lc) rfl
                 have v1 := cell_of kw15 1 (v := .bool x.whole) rfl
                 have r0 := cell_of kr15 0 (v := .slice ra x.clone.lines.length rc) rfl
                 have r1 := cell_of kr15 1 (v := .bool x.clone.whole) rfl
                 clear hq13 hr13 hw13 kw13 kq13 kr13 q0 q1 hB14 hb15)
              | (go_at_call 14
                 refine (RSame_any _ _ x.clone x _ hr15 hw15 hclen hxl).mono ?_
                 rw [Hcs.out]
                 rintro e w17 ⟨rfl, hb17⟩
                 have hB17 := hB15.trans (hb17.mono hB15.size)
                 clear hr15 hw15 hB15))
              all_goals go_ret
              all_goals exact ⟨rfl, hB17⟩
          · go_wp2_with (first
              | (go_at_call 13
                 refine (Get_any p mb n V M (97 + (nm + 1) % 256 % 26) (by omega) (by omega) _ hRr).mono ?_
                 rw [HG.out]
                 rintro e w4 ⟨u, rfl, ⟨_, rfl, ga, gc, rfl, hgx⟩, hb4⟩
                 have hB5 := (Below.refl w4.heap.size w4).alloc (Nat.le_refl _) (Obj.cells #[.slice ga gl.length gc, .bool gw] 24)
                 have hB45 := hb4.trans (hB5.mono hb4.size)
                 have hR5 := hRr.below hB45
                 have hk5 := keep_blk hk3 hB45
                 have x5 := cell_of hk5 0 (v := .slice la x.lines.length lc) rfl
                 have x6 := cell_of hk5 1 (v := .bool x.whole) rfl
                 have hx5 := hx3.below hB45
                 have hwas : RegAt w4 (.agg #[.slice ga gl.length gc, .bool gw]) ⟨gl, gw⟩ := ⟨_, rfl, ga, gc, rfl, hgx⟩
                 have hwas5 := hwas.below hB5
                 have hkw := heap_alloc_new w4 (Obj.cells #[.slice ga gl.length gc, .bool gw] 24)
                 have hBB := HRb.out.trans (hB45.mono HRb.out.size)
                 have hsz5 : mb < w4.heap.size := by have := hb4.size; have := hRr.map.lt; omega
                 clear hRr hk3 hx3 hgx hwas hB5 hB45 hb4)
              | (go_at_call 12
                 refine (Yank_any p mb n V M (97 + nm % 26) (by omega) (by omega) _ x _ hR5 hx5 (by omega) hxl (fun r h _ => absurd Hsm.out h)).mono ?_
                 rw [HYY.out]
                 rintro e w6 ⟨n6, V6, rfl, hR6, hn6, hU6⟩
                 have hk6 := hU6.heap hk5 (by omega)
                 have hx6 := hx5.upd hU6 hR5.nocell
                 have hwas6 := hwas5.upd hU6 hR5.nocell
                 have hkw6 := hU6.heap hkw (by omega)
                 have hsz6 := hU6.size
                 have hB6 := hBB.trans (hU6.below hBB.size (fun k hk e => by omega))
                 clear hR5 hx5 hwas5 hkw hU6 hk5 x5 x6 hBB)
              | (go_at_call 13
                 refine (Get_any p mb n6 V6 M2 (97 + (nm + 1) % 256 % 26) (by omega) (by omega) _ hR6).mono ?_
                 rw [HG2.out]
                 rintro e w7 ⟨u, rfl, ⟨_, rfl, gb, gd, rfl, hgy⟩, hb7⟩
                 have hB8 := (Below.refl w7.heap.size w7).alloc (Nat.le_refl _) (Obj.cells #[.slice gb gl.length gd, .bool gw] 24)
                 have hB78 := hb7.trans (hB8.mono hb7.size)
                 have hR8 := hR6.below hB78
                 have hk8 := keep_blk hk6 hB78
                 have hkw8 := keep_blk hkw6 hB78
                 have hkn8 := heap_alloc_new w7 (Obj.cells #[.slice gb gl.length gd, .bool gw] 24)
                 have hx8 := hx6.below hB78
                 have hwas8 := hwas6.below hB78
                 have hnow : RegAt w7 (.agg #[.slice gb gl.length gd, .bool gw]) ⟨gl, gw⟩ := ⟨_, rfl, gb, gd, rfl, hgy⟩
                 have hnow8 := hnow.below hB8
                 have hBB := hB6.trans (hB78.mono hB6.size)
                 have a0 := cell_of hkw8 0 (v := .slice ga gl.length gc) rfl
                 have a1 := cell_of hkw8 1 (v := .bool gw) rfl
                 have b0 := cell_of hkn8 0 (v := .slice gb gl.length gd) rfl
                 have b1 := cell_of hkn8 1 (v := .bool gw) rfl
                 clear hR6 hk6 hx6 hwas6 hkw6 hgy hnow hB8 hB78 hb7 hB6)
              | (go_at_call 14
                 refine (RSame_any _ _ _ _ _ hwas8 hnow8 (by simp only; omega) (by simp only; omega)).mono ?_
                 rw [Hsame.out]
                 rintro e w9 ⟨rfl, hb9⟩
                 have hB9 := hBB.trans (hb9.mono hBB.size)
                 clear hwas8 hnow8 hBB))
            all_goals go_ret
            all_goals exact ⟨rfl, hB9⟩
    · have Hh2 := Lib.hid hh2
      clear hh2
      go_wp2_with (first
        | (go_at_call_of 9 (Value.slice a ts.length cp)
           rw [HW0.out]
           refine (heavy_any a cp ts _ ht0 hn HL.out HY.out).mono ?_
           rw [Hh.out]
           rintro e w3 ⟨rfl, rfl⟩)
        | (go_at_call_of 9 (Value.slice (some ⟨W0.heap.size, 0, none⟩) 1 1)
           have ho := op_one hst0 0 0
           refine (heavy_any _ 1 [⟨0, 0, x⟩] _ ho (by simp) (by simp; exact hxl) (by simp; exact HXY.out)).mono ?_
           rw [Hh2.out]
           rintro e w3 ⟨rfl, rfl⟩)
        | (go_at_call 10; refine (known_any _).mono ?_; rintro e w1 ⟨rfl, hq⟩))
      go_ret
      have hq1 : Below W0.heap.size W0 w1 := ((Below.refl W0.heap.size W0).alloc (Nat.le_refl _) _).trans (hq.mono (by simp))
      exact ⟨rfl, HB0.out.trans (hq1.mono HB0.out.size)⟩
  · have Hh := Lib.hid hh
    clear hh
    go_enter Try.func4, Try.ntmps4
    go_wp2_with (first
      | (go_at_call_of 9 (Value.slice a ts.length cp)
         rw [HW0.out]
         refine (heavy_any a cp ts _ ht0 hn HL.out HY.out).mono ?_
         rw [Hh.out]
         rintro e w3 ⟨rfl, rfl⟩)
      | (go_at_call 10; refine (known_any _).mono ?_; rintro e w1 ⟨rfl, hq⟩))
    go_ret
    exact ⟨rfl, HB0.out.trans (hq.mono HB0.out.size)⟩
end Go.Proofs.Ytlhcojclfgbobaa
