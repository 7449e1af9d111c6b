/- Contract of Lines of package expand: pieces of a replacement, one by one. -/
import Derived.Test.YtalgdihaeglleaaExpE
namespace Go.Proofs.Ytalgdihaeglleaa
open Go.RowKit

/-- A piece. -/
structure Tm where
  kind : Int
  text : ByteArray
  n : Int
  c : Int

def Tm.run (s : ByteArray) (mb me : Nat → Int) (x : Wr) (t : Tm) : Wr :=
  if t.kind = 1 then x.lay t.text.data.toList else if t.kind = 2 then x.lay (groupB s mb me t.n).data.toList else if t.kind = 3 then x.cut else if t.kind = 4 then x.say t.c else x
def Wr.zero : Wr := ⟨[], [], none, none⟩
def runTms (s : ByteArray) (mb me : Nat → Int) (ts : List Tm) : Wr := ts.foldl (Tm.run s mb me) Wr.zero
def expLines (s : ByteArray) (mb me : Nat → Int) (ts : List Tm) : List (List UInt8) := (runTms s mb me ts).cut.done

def tmsV (a : Option Addr) (n c : Nat) : Value := .slice a n c

/-- Pieces in memory. -/
def TmsAt (w : World) (a : Option Addr) (ts : List Tm) : Prop :=
  ∀ i (h : i < ts.length), ∃ b o, a = some ⟨b, o, none⟩ ∧ w.cell? ⟨b, o + i * 4, none⟩ = some (.int .u8 ts[i].kind) ∧ w.cell? ⟨b, o + i * 4 + 1, none⟩ = some (.string ts[i].text) ∧
    w.cell? ⟨b, o + i * 4 + 2, none⟩ = some (.int .i64 ts[i].n) ∧ w.cell? ⟨b, o + i * 4 + 3, none⟩ = some (.int .u8 ts[i].c)

theorem TmsAt.upd {F : Nat → Prop} {w w' : World} {a : Option Addr} {ts : List Tm} (h : TmsAt w a ts) (hu : Upd F w w') (hF : ∀ k, k < w.heap.size → ¬ F k) : TmsAt w' a ts := by
  intro i hi
  obtain ⟨b, o, e, h0, h1, h2, h3⟩ := h i hi
  have hb := World.block_lt_of_cell? w _ h0
  exact ⟨b, o, e, hu.cell h0 (hF _ hb), hu.cell h1 (hF _ hb), hu.cell h2 (hF _ hb), hu.cell h3 (hF _ hb)⟩

theorem Tm.run_line (s : ByteArray) (mb me : Nat → Int) (x : Wr) (t : Tm) (h1 : t.text.size ≤ 1000) (h2 : s.size ≤ 1000) : (t.run s mb me x).line.length ≤ x.line.length + 1000 := by
  unfold Tm.run
  repeat' split
  · rw [Wr.lay_line]; simp; omega
  · rw [Wr.lay_line]
    have : (groupB s mb me t.n).data.toList.length ≤ s.size := by
      unfold groupB
      repeat' split
      · simp
      · simp
      · simp; omega
    omega
  · simp [Wr.cut]
  · unfold Wr.say; repeat' split
    all_goals simp
  · omega
theorem Tm.run_done (s : ByteArray) (mb me : Nat → Int) (x : Wr) (t : Tm) : (t.run s mb me x).done.length ≤ x.done.length + 1 := by
  unfold Tm.run
  repeat' split
  · rw [Wr.lay_done]; omega
  · rw [Wr.lay_done]; omega
  · simp [Wr.cut]
  · unfold Wr.say; repeat' split
    all_goals simp
  · omega
theorem runs_len (s : ByteArray) (mb me : Nat → Int) (hs : s.size ≤ 1000) : ∀ (ts : List Tm) (x : Wr), (∀ t ∈ ts, t.text.size ≤ 1000) → (ts.foldl (Tm.run s mb me) x).line.length ≤ x.line.length + 1000 * ts.length ∧ (ts.foldl (Tm.run s mb me) x).done.length ≤ x.done.length + ts.length
  | [], x, _ => by simp
  | t :: ts, x, h => by
    have h1 := Tm.run_line s mb me x t (h t (by simp)) hs
    have h2 := Tm.run_done s mb me x t
    have h3 := runs_len s mb me hs ts (t.run s mb me x) (fun u hu => h u (by simp [hu]))
    simp only [List.foldl_cons, List.length_cons]
    omega

theorem WrAt.upd {F : Nat → Prop} {w w' : World} {b : Nat} {dv lv : Value} {x : Wr} (h : WrAt w b dv lv x) (hu : Upd F w w') (hb : ¬ F b) (hd : ∀ g, dv.ownBlock = some g → ¬ F g) (hl : ∀ g, lv.ownBlock = some g → ¬ F g) : WrAt w' b dv lv x :=
  ⟨hu.heap h.blk hb, ownsRow_upd h.hd hu hd, ownsRow_upd h.hl hu hl, h.nd, h.nl, h.nn⟩
theorem WrAt.alloc {w : World} {b : Nat} {dv lv : Value} {x : Wr} (h : WrAt w b dv lv x) (o : Obj) : WrAt (w.alloc o) b dv lv x :=
  h.upd ((Upd.refl (fun _ => False) _).alloc o) (fun h => h) (fun _ _ h => h) (fun _ _ h => h)

/-- The loop of Lines. -/
structure LinesRel (w : World) (cs : Array Value) (x : Wr) (dv lv : Value) (wr : World) : Prop where
  at_ : WrAt wr (w.heap.size + 1) dv lv x
  upd : Upd (fun _ => False) w wr
  dn : ∀ g, dv.ownBlock = some g → w.heap.size < g
  ln : ∀ g, lv.ownBlock = some g → w.heap.size < g
  mt : wr.heap[w.heap.size]? = some (.cells cs 25 (0, 0))

theorem LinesRel.step {w wr w2 : World} {cs : Array Value} {x y : Wr} {dv lv dv2 lv2 : Value} (h : LinesRel w cs x dv lv wr) (ha : WrAt w2 (w.heap.size + 1) dv2 lv2 y)
    (hu : Upd (fun k => k = w.heap.size + 1 ∨ dv.ownBlock = some k ∨ lv.ownBlock = some k) wr w2)
    (hd : ∀ g, dv2.ownBlock = some g → dv.ownBlock = some g ∨ wr.heap.size ≤ g) (hl : ∀ g, lv2.ownBlock = some g → lv.ownBlock = some g ∨ wr.heap.size ≤ g) : LinesRel w cs y dv2 lv2 w2 := by
  have hlt := heap_lt h.mt
  refine ⟨ha, h.upd.then hu (fun i hi hh => ?_), fun g hg => ?_, fun g hg => ?_, hu.heap h.mt (fun hh => ?_)⟩
  · rcases hh with rfl | hh | hh
    · omega
    · have := h.dn i hh; omega
    · have := h.ln i hh; omega
  · rcases hd g hg with hh | hh
    · exact h.dn g hh
    · omega
  · rcases hl g hg with hh | hh
    · exact h.ln g hh
    · omega
  · rcases hh with hh | hh | hh
    · omega
    · have := h.dn _ hh; omega
    · have := h.ln _ hh; omega

theorem upd_through {F G : Nat → Prop} {w w1 w2 : World} (h1 : Upd (fun _ => False) w w1) (h2 : Upd G w1 w2) (hG : ∀ k, k < w.heap.size → G k → F k) : Upd F w w2 :=
  (h1.mono (fun _ _ h => h.elim)).then h2 hG


set_option maxRecDepth 100000 in
set_option maxHeartbeats 4000000 in
theorem lines_any (a : Option Addr) (cp : Nat) (ts : List Tm) (s : ByteArray) (cs : Array Value) (mb me : Nat → Int) (w : World) (ht : TmsAt w a ts) (hm : IsMatch cs mb me) (hs : s.size ≤ 1000) (hn : ts.length ≤ 1000) (hx : ∀ t ∈ ts, t.text.size ≤ 1000) :
    Calls Try.prog 9 #[tmsV a ts.length cp, .string s, .agg cs] w fun e w' => ∃ dv, e = .returned dv ∧ Below w.heap.size w w' ∧ w'.ownsRow w.heap.size 9 1 dv (expLines s mb me ts).length (strsV (expLines s mb me ts)) := by
  unfold tmsV
  go_enter Try.func9, Try.ntmps9
  go_wp2_with fail
  have hR0 : LinesRel w cs Wr.zero (.slice none 0 0) (.slice none 0 0) ((w.alloc (.cells cs 25)).alloc (Obj.cells #[Value.slice none 0 0, Value.slice none 0 0, Value.nilFunc, Value.nilFunc] 42)) := by
    refine ⟨⟨?_, World.ownsRow_nil _ _ _ _, World.ownsRow_nil _ _ _ _, by simp [Value.ownBlock], by simp [Value.ownBlock], fun g h => by simp [Value.ownBlock] at h⟩, ((Upd.refl _ _).alloc _).alloc _, by simp [Value.ownBlock], by simp [Value.ownBlock], ?_⟩
    · have := heap_alloc_new (w.alloc (.cells cs 25)) (Obj.cells #[Value.slice none 0 0, Value.slice none 0 0, Value.nilFunc, Value.nilFunc] 42)
      rw [show (w.alloc (.cells cs 25)).heap.size = w.heap.size + 1 by simp] at this
      exact this
    · rw [Below.heap_alloc _ _ _ (by simp)]; exact heap_alloc_new _ _
  generalize hWW : (w.alloc (.cells cs 25)).alloc (Obj.cells #[Value.slice none 0 0, Value.slice none 0 0, Value.nilFunc, Value.nilFunc] 42) = W0 at *
  clear hWW
  go_loopw [14] (fun i wr => ∃ (k : Nat) (dv lv : Value), k ≤ ts.length ∧ i = .int .i64 k ∧ LinesRel w cs ((ts.take k).foldl (Tm.run s mb me) Wr.zero) dv lv wr) (fun i _ => ts.length - (intOf i).toNat)
  case atStart => exact ⟨0, _, _, by omega, rfl, hR0⟩
  case round =>
    obtain ⟨k, dv, lv, hk, rfl, hR⟩ := hrel
    by_cases hlt : k < ts.length
    · obtain ⟨b, o, rfl, e0, e1, e2, e3⟩ := (TmsAt.upd ht hR.upd (fun _ _ h => h)) k hlt
      have hlen := runs_len s mb me hs (ts.take k) Wr.zero (fun t h => hx t (List.mem_of_mem_take h))
      have htk : (ts.take k).length ≤ k := List.length_take_le _ _
      have Hs : Hid ((ts.take (k + 1)).foldl (Tm.run s mb me) Wr.zero = Tm.run s mb me ((ts.take k).foldl (Tm.run s mb me) Wr.zero) ts[k]) := Lib.hid (by
        rw [List.take_succ_eq_append_getElem hlt, List.foldl_append]; rfl)
      have htx := hx ts[k] (List.getElem_mem hlt)
      generalize (ts.take k).foldl (Tm.run s mb me) Wr.zero = x at *
      generalize ts[k] = t at *
      obtain ⟨tk, tt, tn, tc⟩ := t
      simp only at e0 e1 e2 e3 htx
      simp only [Wr.zero, List.length_nil] at hlen
      have hl1 : x.line.length ≤ 1000000 := by omega
      have hl2 : x.done.length ≤ 1000000 := by omega
      clear hlen htk
      have hgl : (groupB s mb me tn).size ≤ 1000 := by
        unfold groupB
        repeat' split
        · simp [ByteArray.size]
        · simp [ByteArray.size]
        · simp; omega
      have HR := Lib.hid hR
      have HW := Lib.hid (hR.at_.alloc (Obj.cells #[Value.int IntKind.u8 tk, Value.string tt, Value.int IntKind.i64 tn, Value.int IntKind.u8 tc] 29))
      have Hm0 : Hid ((wr.alloc (Obj.cells #[Value.int IntKind.u8 tk, Value.string tt, Value.int IntKind.i64 tn, Value.int IntKind.u8 tc] 29)).heap[w.heap.size]? = some (.cells cs 25 (0, 0))) := Lib.hid (by rw [Below.heap_alloc _ _ _ (heap_lt hR.mt)]; exact hR.mt)
      have HU : Hid (Upd (fun _ => False) wr (wr.alloc (Obj.cells #[Value.int IntKind.u8 tk, Value.string tt, Value.int IntKind.i64 tn, Value.int IntKind.u8 tc] 29))) := Lib.hid ((Upd.refl _ _).alloc _)
      clear hR
      by_cases h1 : tk = 1
      · subst h1
        go_wp2_with (go_at_call 13; refine (lay_any _ dv lv x tt _ HW.out (by omega)).mono ?_; rintro e w' ⟨rfl, lv', hW', hU', hN'⟩)
        go_roundw
        case rel => exact ⟨k + 1, _, _, by omega, by go_num, by rw [Hs.out]; exact HR.out.step hW' (upd_through HU.out hU' (fun k _ h => by rcases h with h | h; exact .inl h; exact .inr (.inr h))) (fun g hg => .inl hg) (fun g hg => by rcases hN' g hg with h | h; exact .inl h; right; have := HU.out.size; omega)⟩
        case measure => simp [intOf]; omega
      by_cases h2 : tk = 2
      · subst h2
        go_wp2_with (first | (go_at_call 14; refine (group_any s cs mb me tn _ hm (by unfold maxLen; omega)).mono ?_; rintro e w' ⟨rfl, hB⟩; have HV := Lib.hid (upd_through HU.out (Upd.of_below (F := fun _ => False) hB (fun _ h1 h2 => by omega)) (fun _ _ h => h)); have HWW := Lib.hid (HR.out.at_.upd HV.out (fun h => h) (fun _ _ h => h) (fun _ _ h => h)); clear hB) | (go_at_call 13; refine (lay_any _ dv lv x (groupB s mb me tn) _ HWW.out (by omega)).mono ?_; rintro e w2 ⟨rfl, lv', hW', hU', hN'⟩) | (refine wpList_load_row rfl 25 _ rfl w.heap.size rfl 25 cs (0, 0) _ Hm0.out rfl rfl (by rw [hm.size]; kernel_rfl) ?_))
        go_roundw
        case rel => exact ⟨k + 1, _, _, by omega, by go_num, by rw [Hs.out]; exact HR.out.step hW' (upd_through HV.out hU' (fun k _ h => by rcases h with h | h; exact .inl h; exact .inr (.inr h))) (fun g hg => .inl hg) (fun g hg => by rcases hN' g hg with h | h; exact .inl h; right; have := HV.out.size; omega)⟩
        case measure => simp [intOf]; omega
      by_cases h3 : tk = 3
      · subst h3
        go_wp2_with (go_at_call 15; refine (end_any _ dv lv x _ HW.out (by omega)).mono ?_; rintro e w' ⟨rfl, dv', hW', hU', hN'⟩)
        go_roundw
        case rel => exact ⟨k + 1, _, _, by omega, by go_num, by rw [Hs.out]; exact HR.out.step hW' (upd_through HU.out hU' (fun k _ h => by rcases h with h | h; exact .inl h; exact .inr (.inl h))) (fun g hg => by rcases hN' g hg with h | h; exact .inl h; right; have := HU.out.size; omega) (fun g hg => by simp [Value.ownBlock] at hg)⟩
        case measure => simp [intOf]; omega
      by_cases h4 : tk = 4
      · subst h4
        go_wp2_with (go_at_call 16; refine (say_any _ dv lv x tc _ HW.out).mono ?_; rintro e w' ⟨rfl, hW', hU'⟩)
        go_roundw
        case rel => exact ⟨k + 1, _, _, by omega, by go_num, by rw [Hs.out]; exact HR.out.step hW' (upd_through HU.out hU' (fun k _ h => .inl h)) (fun g hg => .inl hg) (fun g hg => .inl hg)⟩
        case measure => simp [intOf]; omega
      · have hh : Tm.run s mb me x ⟨tk, tt, tn, tc⟩ = x := by simp [Tm.run, h1, h2, h3, h4]
        have Hh := Lib.hid hh; clear hh
        go_wp2_with fail
        go_roundw
        case rel => exact ⟨k + 1, _, _, by omega, by go_num, by rw [Hs.out, Hh.out]; exact HR.out.step HW.out (upd_through HU.out (Upd.refl (fun _ => False) _) (fun k _ h => h.elim)) (fun g hg => .inl hg) (fun g hg => .inl hg)⟩
        case measure => simp [intOf]; omega
    · obtain rfl : k = ts.length := by omega
      rw [List.take_length] at hR
      have hlen := runs_len s mb me hs ts Wr.zero hx
      simp only [Wr.zero, List.length_nil] at hlen
      obtain ⟨y, hy⟩ : ∃ y, ts.foldl (Tm.run s mb me) ⟨[], [], none, none⟩ = y := ⟨_, rfl⟩
      have Hy : Hid (expLines s mb me ts = y.cut.done) := Lib.hid (by unfold expLines runTms Wr.zero; rw [hy])
      unfold Wr.zero at hR
      rw [hy] at hR hlen
      clear hy
      have hl2 : y.done.length ≤ 1000000 := by omega
      clear hlen hlt
      have HR := Lib.hid hR
      clear hR
      go_wp2_with (go_at_call 15; refine (end_any _ dv lv y _ HR.out.at_ (by omega)).mono ?_; rintro e w' ⟨rfl, dv', hW', hU', hN'⟩; have HW' := Lib.hid hW'; have d0 := cell_of hW'.blk 0 (v := dv') rfl; clear hW')
      go_ret
      have hS := HR.out.step HW'.out (hU'.mono (fun k _ h => by rcases h with h | h; exact .inl h; exact .inr (.inl h))) hN' (fun g hg => by simp [Value.ownBlock] at hg)
      refine ⟨dv', rfl, hS.upd.below (Nat.le_refl _) (fun _ _ h => h), ?_⟩
      rw [Hy.out]
      exact ownsRow_base HW'.out.hd (fun g hg => by have := hS.dn g hg; omega)
end Go.Proofs.Ytalgdihaeglleaa
