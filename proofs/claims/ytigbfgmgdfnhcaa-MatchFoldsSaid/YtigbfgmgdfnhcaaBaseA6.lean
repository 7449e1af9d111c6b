/- Lemmas that the law's proof stands on, part 6: PatG, PatH, PatI. No condition. -/
import Derived.Test.YtigbfgmgdfnhcaaBaseA0
import Derived.Test.YtigbfgmgdfnhcaaBaseA5
set_option linter.all false
set_option linter.unusedVariables false
set_option linter.unusedSimpArgs false
namespace Go.Proofs.Ytigbfgmgdfnhcaa
open Go.RowKit
theorem RdTo.refl {w : World} {B rb : Nat} {s : ByteArray} {st : RdD} {nv : Value} {kvs : List Value} {Z Y : Nat → Prop} (h : RdAt w B rb s st nv kvs Z) : RdTo w B rb s nv Z Y st w :=
  ⟨nv, kvs, Z, h, Upd.refl _ _, fun g hg => .inl hg, fun _ h => h, fun k hk => .inl hk⟩
theorem RdTo.mono {w w' : World} {B rb : Nat} {s : ByteArray} {st : RdD} {nv : Value} {Z Y Y2 : Nat → Prop} (h : RdTo w B rb s nv Z Y st w') (hy : ∀ k, Y k → Y2 k ∨ Z k ∨ w.heap.size ≤ k) : RdTo w B rb s nv Z Y2 st w' := by
  obtain ⟨nv', kvs', Z', h1, h2, h3, h4, h5⟩ := h
  exact ⟨nv', kvs', Z', h1, h2, h3, h4, fun k hk => (h5 k hk).elim .inl (fun h => h.elim (fun h => (hy k h).elim (fun h => .inr (.inl h)) (fun h => h.elim .inl (fun h => .inr (.inr h)))) (fun h => .inr (.inr h)))⟩
def RowPost (w : World) (B rb : Nat) (s : ByteArray) (st : RdD) (nv : Value) (Z : Nat → Prop) (op : Int) (ks : List Nat) (kv : Value) (e : Ending) (w' : World) : Prop :=
  e = .returned (.int .i64 ((st.row op ks).1 : Nat)) ∧ RdTo w B rb s nv Z (fun k => kv.ownBlock = some k) (st.row op ks).2 w'
set_option maxRecDepth 100000 in
set_option maxHeartbeats 1000000 in
theorem row_any {w : World} {B rb : Nat} {s : ByteArray} {st : RdD} {nv : Value} {kvs : List Value} {Z : Nat → Prop} (h : RdAt w B rb s st nv kvs Z) (hB : B ≤ w.heap.size) (op : Int) (ks : List Nat) (kv : Value) (hk : NatsAt w kv ks) (hk2 : ∀ g, kv.ownBlock = some g → ∃ cs fr, w.heap[g]? = some (.cells cs 3 fr)) (hl : st.nodes.length ≤ 401) (hks : ks.length ≤ 1000) :
    Calls Try.prog 63 #[.pointer (some ⟨rb, 0, none⟩), .int .u8 op, kv] w (RowPost w B rb s st nv Z op ks kv) := by
  have HR := Lib.hid h
  have HK := Lib.hid hk
  have HK2 := Lib.hid hk2
  obtain ⟨ka, kc, rfl, hc⟩ := hk
  have HC := Lib.hid hc
  clear h hk2 hc
  unfold RowPost
  match ks, HK, HK2, HC, hks with
  | [], HK, HK2, HC, hks =>
    simp only [RdD.row, List.length_nil]
    go_enter Try.func63, Try.ntmps63
    go_wp2_with (go_at_call 77
                 refine (node_any HR.out hB { op := 1 } (.slice none 0 0) (NatsAt.nil w none 0) (fun g hg => by simp [Value.ownBlock] at hg) hl).mono ?_
                 rintro e w' ⟨rfl, hT⟩)
    go_ret
    exact ⟨rfl, hT.mono (fun k hk => by simp [Value.ownBlock] at hk)⟩
  | [k], HK, HK2, HC, hks =>
    simp only [RdD.row, List.length_cons, List.length_nil]
    obtain ⟨b, o, rfl, hc⟩ := HC.out 0 (by simp)
    simp only [Nat.add_zero, List.getElem_cons_zero] at hc
    go_enter Try.func63, Try.ntmps63
    go_wp2
    go_ret
    exact ⟨rfl, RdTo.refl HR.out⟩
  | a :: b :: ks, HK, HK2, HC, hks =>
    simp only [RdD.row]
    have hl1 : (((a :: b :: ks).length : Int) == 0) = false := by simp; omega
    have hl2 : (((a :: b :: ks).length : Int) == 1) = false := by simp; omega
    generalize hgen : a :: b :: ks = kk at *
    go_enter Try.func63, Try.ntmps63
    go_wp2_with (go_at_call 77
                 refine (node_any HR.out hB { op := op, kids := kk } (.slice ka kk.length kc) HK.out HK2.out hl).mono ?_
                 rintro e w' ⟨rfl, hT⟩)
    go_ret
    exact ⟨rfl, hT⟩
/-- A branch in memory: its block, its kids' row. -/
structure BrAt (w : World) (B bb : Nat) (b : BrD) (kv : Value) : Prop where
  base : B ≤ bb
  blk : w.heap[bb]? = some (.cells #[kv, .bool b.may] 128 (0, 0))
  own : w.ownsRow B 3 1 kv b.kids.length (b.kids.map fun k => Value.int .i64 ((k : Nat) : Int))
theorem info_int : (Try.prog.info? 3).map (fun i => (i.zero, i.size, i.bytes)) = some (some (.int .i64 0), 1, 8) := by kernel_rfl
theorem ownBlock_int {w : World} {B n : Nat} {v : Value} {xs : List Value} (h : w.ownsRow B 3 1 v n xs) {g : Nat} (hg : v.ownBlock = some g) : ∃ cs, w.heap[g]? = some (.cells cs 3 (0, 0)) := by
  rcases h.2 with ⟨rfl, _⟩ | ⟨g', cap, cur, rfl, _, hb, _⟩
  · simp [Value.ownBlock] at hg
  · simp only [Value.ownBlock, Option.some.injEq] at hg
    subst hg
    exact ⟨cur, hb⟩
theorem own_form_int {w : World} {B n : Nat} {v : Value} {xs : List Value} (h : w.ownsRow B 3 1 v (n + 1) xs) : ∃ g c, v = .slice (some ⟨g, 0, none⟩) (n + 1) c := by
  rcases h.2 with ⟨_, h0⟩ | ⟨g, cap, cur, rfl, _⟩
  · omega
  · exact ⟨g, cap, rfl⟩
theorem BrAt.kvne {w : World} {B bb : Nat} {b : BrD} {kv : Value} (h : BrAt w B bb b kv) : kv.ownBlock ≠ some bb := by
  intro e
  obtain ⟨cs, hc⟩ := ownBlock_int h.own e
  rw [h.blk] at hc
  simp at hc
theorem BrAt.upd {F : Nat → Prop} {w w' : World} {B bb : Nat} {b : BrD} {kv : Value} (h : BrAt w B bb b kv) (hu : Upd F w w') (h1 : ¬ F bb) (h2 : ∀ g, kv.ownBlock = some g → ¬ F g) : BrAt w' B bb b kv :=
  ⟨h.base, hu.heap h.blk h1, ownsRow_upd h.own hu h2⟩
theorem nats_of_owns {w : World} {B : Nat} {v : Value} {ks : List Nat} (h : w.ownsRow B 3 1 v ks.length (ks.map fun k => Value.int .i64 ((k : Nat) : Int))) : NatsAt w v ks := by
  rcases h.2 with ⟨rfl, h0⟩ | ⟨g, cap, cur, rfl, _, hb, hnc, _, hsz, htk⟩
  · exact ⟨none, 0, by rw [h0], fun i hi => by omega⟩
  · refine ⟨_, cap, rfl, fun i hi => ⟨g, 0, rfl, ?_⟩⟩
    have : (ks.map fun k => Value.int .i64 ((k : Nat) : Int))[i]? = some (.int .i64 ((ks[i] : Nat) : Int)) := by simp [hi]
    rw [← htk, List.getElem?_take_of_lt (by omega)] at this
    simp only [World.cell?, hb, Nat.zero_add]
    simpa using this
def PiecePost (w : World) (B bb : Nat) (b : BrD) (kv : Value) (k : Nat) (may : Bool) (e : Ending) (w' : World) : Prop :=
  e = .returned (.tuple #[]) ∧ ∃ kv', BrAt w' B bb (b.piece k may) kv' ∧ Upd (fun j => j = bb ∨ kv.ownBlock = some j) w w' ∧ ∀ g, kv'.ownBlock = some g → kv.ownBlock = some g ∨ w.heap.size ≤ g
set_option maxRecDepth 100000 in
set_option maxHeartbeats 1000000 in
theorem piece_any {w : World} {B bb : Nat} {b : BrD} {kv : Value} (h : BrAt w B bb b kv) (hB : B ≤ w.heap.size) (r : Value) (k : Nat) (may : Bool) (hl : b.kids.length ≤ 1000) :
    Calls Try.prog 76 #[r, .pointer (some ⟨bb, 0, none⟩), .int .i64 (k : Nat), .bool may] w (PiecePost w B bb b kv k may) := by
  have HR := Lib.hid h
  have c0 := cell_of h.blk 0 (v := kv) rfl
  obtain ⟨i0, hi, hz0, hz1, hz2⟩ := info_parts info_int
  have hbb := heap_lt h.blk
  clear h
  unfold PiecePost
  go_enter Try.func76, Try.ntmps76
  go_wp2_with (at_builtin
               have hU1 := (Upd.refl (fun _ => False) w).alloc (.cells #[.int .i64 (k : Nat)] 3)
               have hB1 := HR.out.upd hU1 (fun h => h) (fun _ _ h => h)
               have hc1 := cell_one_at (w := w) (n := w.heap.size) (Value.int .i64 (k : Nat)) 3 rfl
               have hz : (w.alloc (.cells #[.int .i64 (k : Nat)] 3)).heap.size = w.heap.size + 1 := by simp
               generalize w.alloc (.cells #[.int .i64 (k : Nat)] 3) = w1 at *
               refine wpList_append_own2 _ rfl _ _ 51 rfl B 3 i0 (.int .i64 0) 1 8 Try.underlying51 hi hz0 hz1 hz2 rfl (by decide) kv _ _ rfl hB1.own ⟨w.heap.size, 0, none⟩ 1 1 [.int .i64 (k : Nat)] rfl rfl hc1 (by simp [Value.oneCell']) (by unfold maxLen; omega) (by omega) (by omega) ?_
               intro v3 w3 ho3 hg3 hn3
               have hU3 := (Upd.refl (fun j => kv.ownBlock = some j) w1).grown hg3 (fun j _ e => e)
               have kb3 := hU3.heap hB1.blk hB1.kvne
               have e0 := cell_of kb3 0 (v := kv) rfl
               have e1 := cell_of kb3 1 (v := .bool b.may) rfl
               have g0 := free_of kb3 0
               have g1 := free_of kb3 1
               have HN3 := Lib.hid hn3
               obtain ⟨g4, c4, rfl⟩ := own_form_int ho3
               clear c0 hc1 hn3)
  have hn3 := HN3.out
  go_end0
  have hUf : Upd (fun j => j = bb ∨ kv.ownBlock = some j) w ((w3.setCell ⟨bb, 0, none⟩ (.slice (some ⟨g4, 0, none⟩) (b.kids.length + 1) c4)).setCell ⟨bb, 1, none⟩ (.bool may)) :=
    (((hU1.mono (fun _ _ h => h.elim)).then hU3 (fun _ _ h => .inr h)).setCell (p := ⟨bb, 0, none⟩) (fun _ => .inl rfl) _).setCell (p := ⟨bb, 1, none⟩) (fun _ => .inl rfl) _
  have hne : (Value.slice (some ⟨g4, 0, none⟩) (b.kids.length + 1) c4).ownBlock ≠ some bb := by
    intro e
    rcases hn3 with h3 | h3
    · rw [h3] at e; exact HR.out.kvne e
    · rw [h3] at e; simp at e; omega
  refine ⟨rfl, _, ⟨HR.out.base, heap_set (heap_set kb3 0 _) 1 (.bool may), ?_⟩, hUf, fun g hg => ?_⟩
  · have := ownsRow_set (ownsRow_set ho3 hne (i := 0) (.slice (some ⟨g4, 0, none⟩) (b.kids.length + 1) c4)) hne (i := 1) (.bool may)
    simpa [BrD.piece] using this
  · rcases hn3 with h3 | h3
    · left; rw [← h3]; exact hg
    · right; rw [h3] at hg; simp at hg; omega
end Go.Proofs.Ytigbfgmgdfnhcaa
namespace Go.Proofs.Ytigbfgmgdfnhcaa
open Go.RowKit
set_option maxHeartbeats 2000000 in
theorem item_any (s : ByteArray) (rb i : Nat) (w : World) (hs : s.size ≤ 1000) (hi : i < s.size) (h0 : w.cell? ⟨rb, 0, none⟩ = some (.string s)) :
    Calls Try.prog 104 #[.pointer (some ⟨rb, 0, none⟩), .int .i64 i] w fun e w' => e = .returned (.tuple #[.int .u8 (itemF s.data.toList i).1, .int .i64 ((itemF s.data.toList i).2 : Nat)]) ∧ w = w' := by
  have hl : s.data.toList.length = s.size := by simp
  obtain ⟨c, hcc⟩ : ∃ c, (s[i].toNat : Int) = c := ⟨_, rfl⟩
  have hbl := bl_at hi
  rw [hcc] at hbl
  unfold itemF
  rw [hl, ← hbl]
  by_cases hc : c = 92
  · have hc2 : (c != 92) = false := by simpa using hc
    by_cases hlt : i + 1 < s.size
    · rw [if_neg (by omega)]
      have hr := bl_rng s.data.toList (i + 1)
      obtain ⟨d, hdd⟩ : ∃ d, (s[i + 1].toNat : Int) = d := ⟨_, rfl⟩
      have hbd := bl_at hlt
      rw [hdd] at hbd
      rw [← hbd] at hr ⊢
      have hlt2 : ¬ (s.size : Int) ≤ (i : Int) + 1 := by omega
      clear hbl hbd hl
      cases hL : (letterF d).2
      · rw [if_neg Bool.false_ne_true]
        by_cases h110 : d = 110
        · rw [if_pos h110]
          have g110 : (d == 110) = true := by simpa using h110
          clear h110 hc
          go_enter Try.func104, Try.ntmps104
          go_wp2_with (go_at_call 92; refine (letter_any2 _ _).mono ?_; rintro e w' ⟨rfl, rfl⟩)
          go_ret2
          exact ⟨by simp, rfl⟩
        · rw [if_neg h110]
          have g110 : (d == 110) = false := by simpa using h110
          have F : Hid (inL (⟨#[92, 93, 94, 45]⟩ : ByteArray).data.toList d = inL [92, 93, 94, 45] d) := Lib.hid rfl
          cases hin : inL [92, 93, 94, 45] d
          · have F1 : Hid (inL (⟨#[92, 93, 94, 45]⟩ : ByteArray).data.toList d = false) := Lib.hid hin
            rw [if_neg Bool.false_ne_true]
            clear h110 hc hin F
            go_enter Try.func104, Try.ntmps104
            go_wp2_with (first
              | (go_at_call 92; refine (letter_any2 _ _).mono ?_; rintro e w' ⟨rfl, rfl⟩)
              | (go_at_call 79; refine (in_any _ _ _ (by decide)).mono ?_; rw [F1.out]; rintro e w' ⟨rfl, rfl⟩))
            go_ret2
            exact ⟨by simp, rfl⟩
          · have F1 : Hid (inL (⟨#[92, 93, 94, 45]⟩ : ByteArray).data.toList d = true) := Lib.hid hin
            rw [if_pos rfl]
            clear h110 hc hin F
            go_enter Try.func104, Try.ntmps104
            go_wp2_with (first
              | (go_at_call 92; refine (letter_any2 _ _).mono ?_; rintro e w' ⟨rfl, rfl⟩)
              | (go_at_call 79; refine (in_any _ _ _ (by decide)).mono ?_; rw [F1.out]; rintro e w' ⟨rfl, rfl⟩))
            go_ret2
            exact ⟨by simp, rfl⟩
      · rw [if_pos rfl]
        clear hc
        go_enter Try.func104, Try.ntmps104
        go_wp2_with (go_at_call 92; refine (letter_any2 _ _).mono ?_; rintro e w' ⟨rfl, rfl⟩)
        go_ret2
        exact ⟨by simp, rfl⟩
    · rw [if_pos (by omega)]
      have hlt2 : (s.size : Int) ≤ (i : Int) + 1 := by omega
      clear hbl hl hc
      go_enter Try.func104, Try.ntmps104
      go_wp2
      go_ret2
      exact ⟨by simp, rfl⟩
  · rw [if_pos (.inl hc)]
    have hc2 : (c != 92) = true := by simpa using hc
    clear hbl hl hc
    go_enter Try.func104, Try.ntmps104
    go_wp2
    go_ret2
    exact ⟨by simp, rfl⟩
theorem digit_sub {b : Int} (h : digitB b = true) : 48 ≤ b ∧ b ≤ 57 := btw_iff.1 h
theorem isB_100 (c : Int) : isB 100 c = digitB c := by
  have h : smallI 100 = 100 := by decide
  rw [isB, h]
  show (digitB c != greatB 100) = digitB c
  rw [show greatB 100 = false by decide]
  cases digitB c <;> rfl
theorem numL_bd (l : List UInt8) : ∀ (f : Nat) (n : Int) (k : Nat), k ≤ (numL l f n k).2 ∧ (numL l f n k).2 ≤ k + f
  | 0, n, k => by simp [numL]
  | f + 1, n, k => by
    unfold numL
    split
    · have := numL_bd l f (10 * n + (bl l k - 48)) (k + 1); omega
    · simp
set_option maxHeartbeats 2000000 in
theorem number_any (s : ByteArray) (rb i : Nat) (w : World) (hs : s.size ≤ 1000) (hi : i ≤ 1001) (h0 : w.cell? ⟨rb, 0, none⟩ = some (.string s)) :
    Calls Try.prog 108 #[.pointer (some ⟨rb, 0, none⟩), .int .i64 i] w fun e w' =>
      e = .returned (.tuple #[.int .i64 (numberF s.data.toList i).1, .int .i64 ((numberF s.data.toList i).2.1 : Nat), .bool (numberF s.data.toList i).2.2]) ∧ w = w' := by
  have hl : s.data.toList.length = s.size := by simp
  have HL := Lib.hid hl
  clear hl
  go_enter Try.func108, Try.ntmps108
  go_wp2
  go_loop [7, 8] (fun kv nv => ∃ (k f : Nat) (n : Int), i ≤ k ∧ k + f = i + 4 ∧ kv = .int .i64 k ∧ nv = .int .i64 n ∧ 0 ≤ n ∧ (f = 4 ∧ n = 0 ∨ f = 3 ∧ n ≤ 9 ∨ f = 2 ∧ n ≤ 99 ∨ f = 1 ∧ n ≤ 999 ∨ f = 0 ∧ n ≤ 9999) ∧ Hid (numL s.data.toList f n k = numL s.data.toList 4 0 i)) (fun kv nv => i + 4 - (intOf kv).toNat)
  case atStart => exact ⟨i, 4, 0, by omega, by omega, rfl, rfl, by omega, by omega, Lib.hid rfl⟩
  case round =>
    obtain ⟨k, f, n, hik, hkf, rfl, rfl, hn0, hn1, hE⟩ := hrel
    have hn2 : n ≤ 9999 := by omega
    have HN := Lib.hid hn1
    clear hn1
    have hdone : (f = 0 ∨ s.size ≤ k ∨ digitB (bl s.data.toList k) = false) → Hid (numberF s.data.toList i = (n, k, decide (i < k) && decide (k - i ≤ 3))) := by
      intro hh
      have e : numL s.data.toList f n k = (n, k) := by
        cases f with
        | zero => rfl
        | succ f =>
          unfold numL
          rw [if_neg]
          rintro ⟨h1, h2⟩
          rw [HL.out] at h1
          rcases hh with h | h | h
          · omega
          · omega
          · rw [h2] at h; cases h
      refine Lib.hid ?_
      unfold numberF
      rw [← hE.out, e]
    have HD := Lib.hid hdone
    clear hdone
    by_cases hlt : k < s.size
    · obtain ⟨b, hbb⟩ : ∃ b, (s[k].toNat : Int) = b := ⟨_, rfl⟩
      have hbl := bl_at hlt
      rw [hbb] at hbl
      have hbr := bl_rng s.data.toList k
      rw [← hbl] at hbr
      have HBL := Lib.hid hbl
      cases hd : digitB b
      · have hd2 : isB 100 b = false := by rw [isB_100]; exact hd
        have Hf := HD.out (.inr (.inr (by rw [← HBL.out]; exact hd)))
        clear hbl hd
        clear HD
        by_cases hki : i < k
        · have hki2 : (i : Int) < (k : Int) := by omega
          go_wp2_with (go_at_call 18; refine (rIs_any _ _ (by decide) (by decide) _).mono ?_; rintro e w' ⟨rfl, rfl⟩)
          go_ret3
          refine ⟨?_, rfl⟩
          rw [Hf.out]
          simp only [Ending.returned.injEq, Value.tuple.injEq, Array.mk.injEq, List.cons.injEq, Value.bool.injEq, and_true, true_and]
          rw [decide_eq_true hki]
          simp
          omega
        · obtain rfl : k = i := by omega
          go_wp2_with (go_at_call 18; refine (rIs_any _ _ (by decide) (by decide) _).mono ?_; rintro e w' ⟨rfl, rfl⟩)
          go_ret3
          exact ⟨by rw [Hf.out]; simp, rfl⟩
      · have hd2 : isB 100 b = true := by rw [isB_100]; exact hd
        have hds := digit_sub hd
        by_cases hf : f = 0
        · have Hf := HD.out (.inl hf)
          have hk4 : ¬ (k : Int) - (i : Int) < 4 := by omega
          have hki2 : (i : Int) < (k : Int) := by omega
          clear HD hbl hd
          go_wp2_with (go_at_call 18; refine (rIs_any _ _ (by decide) (by decide) _).mono ?_; rintro e w' ⟨rfl, rfl⟩)
          go_ret3
          refine ⟨?_, rfl⟩
          rw [Hf.out]
          simp only [Ending.returned.injEq, Value.tuple.injEq, Array.mk.injEq, List.cons.injEq, Value.bool.injEq, and_true, true_and]
          rw [decide_eq_true (show i < k by omega)]
          simp
          omega
        · obtain ⟨f', rfl⟩ : ∃ f', f = f' + 1 := ⟨f - 1, by omega⟩
          have hk4 : (k : Int) - (i : Int) < 4 := by omega
          have HE2 : Hid (numL s.data.toList f' (10 * n + (b - 48)) (k + 1) = numL s.data.toList 4 0 i) := by
            have := hE.out
            unfold numL at this
            rw [if_pos ⟨by rw [HL.out]; exact hlt, by rw [← HBL.out]; exact hd⟩, ← HBL.out] at this
            exact Lib.hid this
          clear HD hbl hd
          go_wp2_with (go_at_call 18; refine (rIs_any _ _ (by decide) (by decide) _).mono ?_; rintro e w' ⟨rfl, rfl⟩)
          go_round
          case rel => exact ⟨k + 1, f', 10 * n + (b - 48), by omega, by omega, by go_num, by go_num, by omega, by have := HN.out; omega, HE2⟩
          case measure => simp [intOf]; omega
    · have Hf := HD.out (.inr (.inl (by omega)))
      clear HD
      by_cases hki : i < k
      · have hki2 : (i : Int) < (k : Int) := by omega
        go_wp2
        go_ret3
        refine ⟨?_, rfl⟩
        rw [Hf.out]
        simp only [Ending.returned.injEq, Value.tuple.injEq, Array.mk.injEq, List.cons.injEq, Value.bool.injEq, and_true, true_and]
        rw [decide_eq_true hki]
        simp
        omega
      · obtain rfl : k = i := by omega
        go_wp2
        go_ret3
        exact ⟨by rw [Hf.out]; simp, rfl⟩
end Go.Proofs.Ytigbfgmgdfnhcaa
namespace Go.Proofs.Ytigbfgmgdfnhcaa
open Go.RowKit
theorem skip_eq (l : List UInt8) : ∀ (f a k : Nat), a ≤ k → k - a ≤ f → (∀ j, a ≤ j → j < k → j < l.length ∧ isB 108 (bl l j) = true) → ¬ (k < l.length ∧ isB 108 (bl l k) = true) → skipF l f a = k
  | 0, a, k, h1, h2, _, _ => by unfold skipF; omega
  | f + 1, a, k, h1, h2, h3, h4 => by
    unfold skipF
    by_cases hak : a = k
    · subst hak; rw [if_neg h4]
    · rw [if_pos (h3 a (Nat.le_refl _) (by omega))]
      exact skip_eq l f (a + 1) k (by omega) (by omega) (fun j g1 g2 => h3 j (by omega) g2) h4
theorem extract_list (s : ByteArray) (a b : Nat) : (s.extract a b).toList = (s.data.toList.drop a).take (b - a) := by
  rw [Lib.toList_data]
  simp [ByteArray.data_extract, Array.toList_extract, List.extract_eq_take_drop]
theorem results_blk_tmp2 {P : Program} {fn : Func} {p u v : Tmp} {ty : TypeId} (h : fn.results = #[.cell p ty, .tmp u, .tmp v]) (tmps : Array Value) (w : World) (g : Nat) (t : TypeId) (cs : Array Value) (fr : Nat × Nat) (d : TypeDesc)
    (hp : tmps.getD p undef = .pointer (some ⟨g, 0, none⟩)) (hg : w.heap[g]? = some (.cells cs t fr))
    (hu : P.underlying ty = some d) (hd : (match d with | .struct _ | .array _ _ => true | _ => false) = true) (hi : (P.info? ty).map (·.size) = some cs.size) :
    (results fn tmps).run P w = .ok (.tuple #[.agg cs, tmps.getD u undef, tmps.getD v undef]) w := by
  have hr := run_loadVar_row w g t ty cs fr d hg hu hd hi
  simp only [results, h]
  have hp2 : tmps[p]?.getD undef = .pointer (some ⟨g, 0, none⟩) := by simpa using hp
  simp [hp2, hr, asAddr, Sem.run_bind, Result.andThen]
def setC (x : SetD) : Array Value := #[.int .u64 x.a0, .int .u64 x.a1, .int .u64 x.a2, .int .u64 x.a3]
set_option maxRecDepth 100000 in
set_option maxHeartbeats 4000000 in
theorem name_any (s : ByteArray) (rb i : Nat) (w : World) (hs : s.size ≤ 1000) (hi : i < s.size) (h0 : w.cell? ⟨rb, 0, none⟩ = some (.string s)) :
    Calls Try.prog 102 #[.pointer (some ⟨rb, 0, none⟩), .int .i64 i] w fun e w' =>
      e = .returned (.tuple #[.agg (setC (nameF s.data.toList i).1), .int .i64 ((nameF s.data.toList i).2.1 : Nat), .bool (nameF s.data.toList i).2.2]) ∧ Below w.heap.size w w' := by
  have hl : s.data.toList.length = s.size := by simp
  have HL := Lib.hid hl
  have hB1 := (Below.refl w.heap.size w).alloc (Nat.le_refl _) (.cells #[.int .u64 0, .int .u64 0, .int .u64 0, .int .u64 0] 61)
  have g0 := (false_upd2 hB1).cell h0 (fun h => h)
  have k0 := heap_alloc_new w (.cells #[.int .u64 0, .int .u64 0, .int .u64 0, .int .u64 0] 61)
  have HW : Hid (w.alloc (.cells #[.int .u64 0, .int .u64 0, .int .u64 0, .int .u64 0] 61) = w.alloc (.cells #[.int .u64 0, .int .u64 0, .int .u64 0, .int .u64 0] 61)) := Lib.hid rfl
  obtain ⟨c, hcc⟩ : ∃ c, (s[i].toNat : Int) = c := ⟨_, rfl⟩
  have hbl := bl_at hi
  rw [hcc] at hbl
  have early : ∀ (h : s.size ≤ i + 1 ∨ c ≠ 91 ∨ bl s.data.toList (i + 1) ≠ 58), Hid (nameF s.data.toList i = (.zero, 0, false)) := by
    intro h
    refine Lib.hid ?_
    unfold nameF
    rw [hl, ← hbl, if_pos h]
  by_cases hlt : i + 1 < s.size
  · have hlt2 : ¬ (s.size : Int) ≤ (i : Int) + 1 := by omega
    obtain ⟨d, hdd⟩ : ∃ d, (s[i + 1].toNat : Int) = d := ⟨_, rfl⟩
    have hbd := bl_at hlt
    rw [hdd] at hbd
    rw [← hbd] at early
    by_cases hc : c = 91
    · have hc2 : (c != 91) = false := by simpa using hc
      by_cases hd : d = 58
      · have hd2 : (d != 58) = false := by simpa using hd
        have hmain : Hid (nameF s.data.toList i = if s.size ≤ skipF s.data.toList s.size (i + 2) + 1 ∨ bl s.data.toList (skipF s.data.toList s.size (i + 2)) ≠ 58 ∨ bl s.data.toList (skipF s.data.toList s.size (i + 2) + 1) ≠ 93 then (.zero, 0, false) else (setJ (nameP ((s.data.toList.drop (i + 2)).take (skipF s.data.toList s.size (i + 2) - (i + 2)))), skipF s.data.toList s.size (i + 2) + 2, nameIs ((s.data.toList.drop (i + 2)).take (skipF s.data.toList s.size (i + 2) - (i + 2))))) := by
          refine Lib.hid ?_
          unfold nameF
          rw [hl, ← hbl, ← hbd, if_neg (by rintro (h | h | h); omega; exact h hc; exact h hd)]
        clear early hbl hbd hc hd hl
        go_enter Try.func102, Try.ntmps102
        go_wp2
        obtain ⟨W, hW⟩ : ∃ W, w.alloc (.cells #[.int .u64 0, .int .u64 0, .int .u64 0, .int .u64 0] 61) = W := ⟨_, rfl⟩
        rw [hW] at g0 k0 hB1 ⊢
        clear hW HW
        go_loop [7] (fun kv => ∃ k : Nat, i + 2 ≤ k ∧ k ≤ 1002 ∧ kv = .int .i64 k ∧ Hid (∀ j, i + 2 ≤ j → j < k → j < s.data.toList.length ∧ isB 108 (bl s.data.toList j) = true)) (fun kv => 1002 - (intOf kv).toNat)
        case atStart => exact ⟨i + 2, by omega, by omega, by go_num, Lib.hid (fun j h1 h2 => by omega)⟩
        case round =>
          obtain ⟨k, hk1, hk2, rfl, hT⟩ := hrel
          have hskip : ¬ (k < s.data.toList.length ∧ isB 108 (bl s.data.toList k) = true) → skipF s.data.toList s.size (i + 2) = k := fun h => by
            refine skip_eq _ _ _ _ hk1 ?_ hT.out h
            by_cases he : k = i + 2
            · omega
            · have := (hT.out (k - 1) (by omega) (by omega)).1
              rw [HL.out] at this
              omega
          have HS := Lib.hid hskip
          clear hskip
          by_cases hlk : k < s.size
          · obtain ⟨b, hbb⟩ : ∃ b, (s[k].toNat : Int) = b := ⟨_, rfl⟩
            have hbk := bl_at hlk
            rw [hbb] at hbk
            have HBK := Lib.hid hbk
            clear hbk
            cases hq : isB 108 b
            · have HQ := Lib.hid (HS.out (by rw [← HBK.out]; rintro ⟨_, h⟩; rw [hq] at h; cases h))
              have HM := Lib.hid hmain.out
              rw [HQ.out, ← HBK.out] at HM
              clear HS hT
              by_cases hlk2 : k + 1 < s.size
              · obtain ⟨b2, hbb2⟩ : ∃ b, (s[k + 1].toNat : Int) = b := ⟨_, rfl⟩
                have hbk2 := bl_at hlk2
                rw [hbb2] at hbk2
                rw [← hbk2] at HM
                clear hbk2
                have hge : ¬ (s.size : Int) ≤ (k : Int) + 1 := by omega
                by_cases hb58 : b = 58
                · have qb58 : (b != 58) = false := by simpa using hb58
                  by_cases hb93 : b2 = 93
                  · have qb93 : (b2 != 93) = false := by simpa using hb93
                    rw [if_neg (by rintro (h | h | h); omega; exact h hb58; exact h hb93)] at HM
                    clear hb58 hb93 hmain
                    have hkx : (i : Int) + 2 ≤ (k : Int) := by omega
                    have hks : (k : Int) ≤ (s.size : Int) := by omega
                    have HX := Lib.hid (extract_list s (i + 2) k)
                    go_wp2_with (first
                      | (go_at_call 18; refine (rIs_any _ _ (by decide) (by decide) _).mono ?_; rintro e w' ⟨rfl, rfl⟩)
                      | (go_at_call 107
                         refine (rNamed_any _ _).mono ?_
                         rintro e w2 ⟨rfl, hb2⟩
                         unfold ofV setV
                         replace k0 := heap_old2 ((false_upd2 hb2).heap k0 (fun h => h)) (.cells #[.int .u64 (accJ (nameP (s.extract (i + 2) k).toList) 0 256), .int .u64 (accJ (nameP (s.extract (i + 2) k).toList) 1 256), .int .u64 (accJ (nameP (s.extract (i + 2) k).toList) 2 256), .int .u64 (accJ (nameP (s.extract (i + 2) k).toList) 3 256)] 61)
                         replace hB1 := (hB1.trans (hb2.mono hB1.size)).alloc ((hB1.trans (hb2.mono hB1.size)).size) (.cells #[.int .u64 (accJ (nameP (s.extract (i + 2) k).toList) 0 256), .int .u64 (accJ (nameP (s.extract (i + 2) k).toList) 1 256), .int .u64 (accJ (nameP (s.extract (i + 2) k).toList) 2 256), .int .u64 (accJ (nameP (s.extract (i + 2) k).toList) 3 256)] 61)
                         replace g0 := (false_upd2 hb2).cell g0 (fun h => h)
                         clear hb2)
                      | ((with_reducible refine stopSt 61 _ _ rfl ?_); unfold Stop; refine wpList_store_blk rfl 61 _ _ rfl _ _ rfl _ (by go_simp; first | done | exact rfl) _ _ _ k0 (zzB rfl) (by kernel_rfl) rfl (by simp only [spl, Value.cells, zzT, zzO, zzS, Array.toList]; exact rfl) ?_; intro wn kn hUn hsn; replace hB1 := hB1.trans (hUn.below hB1.size (fun k hk e => by omega)); replace k0 := kn; clear kn hUn hsn))
                    exact bodyPost_ret (v := .tuple #[.agg _, .int .i64 ((k : Int) + 2), .bool _]) (results_blk_tmp2 Try.results102 _ _ w.heap.size 61 _ (0, 0) _ rfl k0 Try.underlying61 rfl (by kernel_rfl)) rfl ⟨by rw [HM.out, ← HX.out]; simp [setC, setJ], hB1⟩
                  · have qb93 : (b2 != 93) = true := by simpa using hb93
                    rw [if_pos (.inr (.inr hb93))] at HM
                    clear hb58 hb93 hmain
                    go_wp2_with (first
                      | (go_at_call 18; refine (rIs_any _ _ (by decide) (by decide) _).mono ?_; rintro e w' ⟨rfl, rfl⟩)
                      | ((with_reducible refine stopSt 61 _ _ rfl ?_); unfold Stop; refine wpList_store_blk rfl 61 _ _ rfl _ _ rfl _ (by go_simp; first | done | exact rfl) _ _ _ k0 (zzB rfl) (by kernel_rfl) rfl (by simp only [spl, Value.cells, zzT, zzO, zzS, Array.toList]; exact rfl) ?_; intro wn kn hUn hsn; replace hB1 := hB1.trans (hUn.below hB1.size (fun k hk e => by omega)); replace k0 := kn; clear kn hUn hsn))
                    exact bodyPost_ret (v := .tuple #[.agg _, .int .i64 0, .bool false]) (results_blk_tmp2 Try.results102 _ _ w.heap.size 61 _ (0, 0) _ rfl k0 Try.underlying61 rfl (by kernel_rfl)) rfl ⟨by rw [HM.out]; rfl, hB1⟩
                · have qb58 : (b != 58) = true := by simpa using hb58
                  rw [if_pos (.inr (.inl hb58))] at HM
                  clear hb58 hmain
                  go_wp2_with (first
                    | (go_at_call 18; refine (rIs_any _ _ (by decide) (by decide) _).mono ?_; rintro e w' ⟨rfl, rfl⟩)
                    | ((with_reducible refine stopSt 61 _ _ rfl ?_); unfold Stop; refine wpList_store_blk rfl 61 _ _ rfl _ _ rfl _ (by go_simp; first | done | exact rfl) _ _ _ k0 (zzB rfl) (by kernel_rfl) rfl (by simp only [spl, Value.cells, zzT, zzO, zzS, Array.toList]; exact rfl) ?_; intro wn kn hUn hsn; replace hB1 := hB1.trans (hUn.below hB1.size (fun k hk e => by omega)); replace k0 := kn; clear kn hUn hsn))
                  exact bodyPost_ret (v := .tuple #[.agg _, .int .i64 0, .bool false]) (results_blk_tmp2 Try.results102 _ _ w.heap.size 61 _ (0, 0) _ rfl k0 Try.underlying61 rfl (by kernel_rfl)) rfl ⟨by rw [HM.out]; rfl, hB1⟩
              · rw [if_pos (.inl (by omega))] at HM
                have hge : (s.size : Int) ≤ (k : Int) + 1 := by omega
                clear hmain
                go_wp2_with (first
                  | (go_at_call 18; refine (rIs_any _ _ (by decide) (by decide) _).mono ?_; rintro e w' ⟨rfl, rfl⟩)
                  | ((with_reducible refine stopSt 61 _ _ rfl ?_); unfold Stop; refine wpList_store_blk rfl 61 _ _ rfl _ _ rfl _ (by go_simp; first | done | exact rfl) _ _ _ k0 (zzB rfl) (by kernel_rfl) rfl (by simp only [spl, Value.cells, zzT, zzO, zzS, Array.toList]; exact rfl) ?_; intro wn kn hUn hsn; replace hB1 := hB1.trans (hUn.below hB1.size (fun k hk e => by omega)); replace k0 := kn; clear kn hUn hsn))
                exact bodyPost_ret (v := .tuple #[.agg _, .int .i64 0, .bool false]) (results_blk_tmp2 Try.results102 _ _ w.heap.size 61 _ (0, 0) _ rfl k0 Try.underlying61 rfl (by kernel_rfl)) rfl ⟨by rw [HM.out]; rfl, hB1⟩
            · go_wp2_with (go_at_call 18; refine (rIs_any _ _ (by decide) (by decide) _).mono ?_; rintro e w' ⟨rfl, rfl⟩)
              go_round
              case rel => exact ⟨k + 1, by omega, by omega, by go_num, Lib.hid (fun j h1 h2 => by
                by_cases hj : j = k
                · subst hj; exact ⟨by rw [HL.out]; exact hlk, by rw [← HBK.out]; exact hq⟩
                · exact hT.out j h1 (by omega))⟩
              case measure => simp [intOf]; omega
          · have HQ := Lib.hid (HS.out (by rw [HL.out]; rintro ⟨h, _⟩; omega))
            have HM := Lib.hid hmain.out
            rw [HQ.out, if_pos (.inl (by omega))] at HM
            have hge : (s.size : Int) ≤ (k : Int) + 1 := by omega
            clear HS hT
            go_wp2_with (first | ((with_reducible refine stopSt 61 _ _ rfl ?_); unfold Stop; refine wpList_store_blk rfl 61 _ _ rfl _ _ rfl _ (by go_simp; first | done | exact rfl) _ _ _ k0 (zzB rfl) (by kernel_rfl) rfl (by simp only [spl, Value.cells, zzT, zzO, zzS, Array.toList]; exact rfl) ?_; intro wn kn hUn hsn; replace hB1 := hB1.trans (hUn.below hB1.size (fun k hk e => by omega)); replace k0 := kn; clear kn hUn hsn))
            exact bodyPost_ret (v := .tuple #[.agg _, .int .i64 0, .bool false]) (results_blk_tmp2 Try.results102 _ _ w.heap.size 61 _ (0, 0) _ rfl k0 Try.underlying61 rfl (by kernel_rfl)) rfl ⟨by rw [HM.out]; rfl, hB1⟩
      · have hd2 : (d != 58) = true := by simpa using hd
        have HM := early (.inr (.inr hd))
        clear early hbl hl HW
        go_enter Try.func102, Try.ntmps102
        go_wp2
        exact bodyPost_ret (v := .tuple #[.agg _, .int .i64 0, .bool false]) (results_blk_tmp2 Try.results102 _ _ w.heap.size 61 _ (0, 0) _ rfl k0 Try.underlying61 rfl (by kernel_rfl)) rfl ⟨by rw [HM.out]; rfl, hB1⟩
    · have hc2 : (c != 91) = true := by simpa using hc
      have HM := early (.inr (.inl hc))
      clear early hbl hl HW
      go_enter Try.func102, Try.ntmps102
      go_wp2
      exact bodyPost_ret (v := .tuple #[.agg _, .int .i64 0, .bool false]) (results_blk_tmp2 Try.results102 _ _ w.heap.size 61 _ (0, 0) _ rfl k0 Try.underlying61 rfl (by kernel_rfl)) rfl ⟨by rw [HM.out]; rfl, hB1⟩
  · have hlt2 : (s.size : Int) ≤ (i : Int) + 1 := by omega
    have HM := early (.inl (by omega))
    clear early hbl hl HW
    go_enter Try.func102, Try.ntmps102
    go_wp2
    exact bodyPost_ret (v := .tuple #[.agg _, .int .i64 0, .bool false]) (results_blk_tmp2 Try.results102 _ _ w.heap.size 61 _ (0, 0) _ rfl k0 Try.underlying61 rfl (by kernel_rfl)) rfl ⟨by rw [HM.out]; rfl, hB1⟩
end Go.Proofs.Ytigbfgmgdfnhcaa
