/- Lemmas that the law's proof stands on, part 5: PatD, App, PatE, PatF. No condition. -/
import Derived.Test.YtigbfgmgdfnhcaaBaseA0
import Derived.Deep.Draws
import Derived.Laws.AppendOwn
import Derived.Outline
import Derived.Test.YtigbfgmgdfnhcaaBaseA3
import Derived.Test.YtigbfgmgdfnhcaaBaseA4
set_option linter.all false
set_option linter.unusedVariables false
set_option linter.unusedSimpArgs false
namespace Go.Proofs.Ytigbfgmgdfnhcaa
open Go.RowKit
set_option maxRecDepth 100000 in
set_option maxHeartbeats 8000000 in
theorem token_any (s : ByteArray) (rb : Nat) (mode cs : Int) (i : Nat) (w : World) (hs : s.size ≤ 1000) (hi : i < s.size) (h0 : w.cell? ⟨rb, 0, none⟩ = some (.string s)) (h2 : w.cell? ⟨rb, 2, none⟩ = some (.int .u8 mode)) (h6 : w.cell? ⟨rb, 6, none⟩ = some (.int .u8 cs)) :
    Calls Try.prog 62 #[.pointer (some ⟨rb, 0, none⟩), .int .i64 i] w fun e w' => e = .returned (.tuple #[.agg (tokC (tokenF s.data.toList mode cs i).1), .bool (tokenF s.data.toList mode cs i).2]) ∧ Below w.heap.size w w' := by
  have hrb := World.block_lt_of_cell? w _ h0
  simp only at hrb
  obtain ⟨c, hcc⟩ : ∃ c, (s[i].toNat : Int) = c := ⟨_, rfl⟩
  have hbl := bl_at hi
  rw [hcc] at hbl
  have hB1 := (Below.refl w.heap.size w).alloc (Nat.le_refl _) (.cells #[.int .u8 0, .int .u8 0, .int .u8 0, .int .u64 0, .int .u64 0, .int .u64 0, .int .u64 0, .int .i64 0, .int .i64 0, .bool false, .int .i64 0, .slice none 0 0, .bool false, .int .i64 0, .int .u8 0, .int .u8 0] 115)
  have e0 := (false_upd2 hB1).cell h0 (fun h => h)
  unfold tokenF
  rw [← hbl]
  by_cases hc : c = 92
  · rw [if_pos hc]
    have hc2 : (c == 92) = true := by simpa using hc
    have e2 := (false_upd2 hB1).cell h2 (fun h => h)
    have e6 := (false_upd2 hB1).cell h6 (fun h => h)
    have k1 := heap_alloc_new w (.cells #[.int .u8 0, .int .u8 0, .int .u8 0, .int .u64 0, .int .u64 0, .int .u64 0, .int .u64 0, .int .i64 0, .int .i64 0, .bool false, .int .i64 0, .slice none 0 0, .bool false, .int .i64 0, .int .u8 0, .int .u8 0] 115)
    have hsl := fun w e0 e2 e6 => slash_any s rb mode cs i w hs (by omega) e0 e2 e6
    generalize slashF s.data.toList mode cs i = q at *
    simp only [tokC] at hsl
    have HSL := Lib.hid hsl
    clear hsl
    clear hc hbl
    go_enter Try.func62, Try.ntmps62
    go_wp2_with (first
      | (go_at_call 78
         refine (HSL.out _ e0 e2 e6).mono ?_
         rintro e w2 ⟨rfl, hb⟩
         have kR := (false_upd2 hb).heap k1 (fun h => h)
         have hB := hB1.trans (hb.mono (by simp))
         clear hb k1 e0 e2 e6)
      | (with_reducible refine stopSt 115 _ _ rfl ?_; unfold Stop
         refine wpList_store_blk rfl 115 _ _ rfl _ _ rfl _ (by go_simp; first | done | exact rfl) _ _ _ kR (zzB rfl) (by kernel_rfl) rfl (by simp only [spl, Value.cells, zzT, zzO, zzS, Array.toList]; exact rfl) ?_
         intro wn kn hUn hsn
         replace kR := kn
         replace hB := hB.trans (hUn.below hB.size (fun k hk e => by omega))))
    exact bodyPost_ret (v := .tuple #[.agg _, .bool _]) (results_blk_tmp Try.results62 _ _ w.heap.size 115 _ (0, 0) _ rfl kR Try.underlying115 rfl (by kernel_rfl)) rfl ⟨rfl, hB⟩
  · rw [if_neg hc]
    have hc2 : (c == 92) = false := by simpa using hc
    have hi2 : i ≤ 1000 := by omega
    clear hc hbl hB1
    cases hin : inL (plainL mode) c
    all_goals
      have F3 : Hid (inL (⟨(plainL mode).toArray⟩ : ByteArray).data.toList c = _) := Lib.hid hin
      clear hin
      go_enter Try.func62, Try.ntmps62
      go_wp2
      clear e0
      obtain ⟨w1, hw1, hB1, g0, g2, g6, k1, hz1⟩ : ∃ w1, w.alloc (.cells #[.int .u8 0, .int .u8 0, .int .u8 0, .int .u64 0, .int .u64 0, .int .u64 0, .int .u64 0, .int .i64 0, .int .i64 0, .bool false, .int .i64 0, .slice none 0 0, .bool false, .int .i64 0, .int .u8 0, .int .u8 0] 115) = w1 ∧ Below w.heap.size w w1 ∧ w1.cell? ⟨rb, 0, none⟩ = some (.string s) ∧ w1.cell? ⟨rb, 2, none⟩ = some (.int .u8 mode) ∧ w1.cell? ⟨rb, 6, none⟩ = some (.int .u8 cs) ∧ w1.heap[w.heap.size]? = some (.cells #[.int .u8 0, .int .u8 0, .int .u8 0, .int .u64 0, .int .u64 0, .int .u64 0, .int .u64 0, .int .i64 0, .int .i64 0, .bool false, .int .i64 0, .slice none 0 0, .bool false, .int .i64 0, .int .u8 0, .int .u8 0] 115 (0, 0)) ∧ w1.heap.size = w.heap.size + 1 :=
        ⟨_, rfl, (Below.refl _ _).alloc (Nat.le_refl _) _, ((Upd.refl (fun _ => False) w).alloc _).cell h0 (fun h => h), ((Upd.refl (fun _ => False) w).alloc _).cell h2 (fun h => h), ((Upd.refl (fun _ => False) w).alloc _).cell h6 (fun h => h), heap_alloc_new _ _, by simp⟩
      rw [hw1]
      clear hw1 h0 h2 h6
      have hsum : IntKind.i64.wrap ((i : Int) + 1) = (i : Int) + 1 := by unfold IntKind.wrap; simp [IntKind.signed, IntKind.bits]; omega
      refine wp_region_seq (fun v => Upd (fun _ => False) w1 v) (fun i => i != 99) [(0, true), (1, true), (2, true), (3, true), (4, true), (5, true), (6, true), (7, true), (8, true), (9, true), (10, true), (11, true), (12, false), (13, false)] (by exact rfl) (by kernel_rfl) (by intro c a d v w h; cases d <;> exact h) ?_
      have hS : Upd (fun _ => False) w1 w1.drew := (Upd.refl _ _).drew
      iterate 12 (((apply seq_val2 rfl (by rfl); (focus (intro w' hS'; have s2 := hS'.cell g2 (fun h => h); have s6 := hS'.cell g6 (fun h => h); go_simp; (first | done | exact rfl | (rw [if_pos (by omega)]; done)))); (focus exact hS))); (try simp only [Act.put, zzT, zzO, zzS]))
      refine seq_loud2 rfl (fun K hK => ?_)
      go_simp; obtain ⟨w2, hw2, kT, hS2, hz2⟩ : ∃ w2, (w1.alloc (.cells #[.int .u8 0, .int .u8 0, .int .u8 0, .int .u64 0, .int .u64 0, .int .u64 0, .int .u64 0, .int .i64 0, .int .i64 0, .bool false, .int .i64 0, .slice none 0 0, .bool false, .int .i64 0, .int .u8 0, .int .u8 0] 115)).drew = w2 ∧ w2.heap[w.heap.size + 1]? = some (.cells #[.int .u8 0, .int .u8 0, .int .u8 0, .int .u64 0, .int .u64 0, .int .u64 0, .int .u64 0, .int .i64 0, .int .i64 0, .bool false, .int .i64 0, .slice none 0 0, .bool false, .int .i64 0, .int .u8 0, .int .u8 0] 115 (0, 0)) ∧ Upd (fun _ => False) w1 w2 ∧ w2.heap.size = w.heap.size + 2 := ⟨_, rfl, hz1 ▸ heap_alloc_new w1 _, ((Upd.refl (fun _ => False) w1).alloc _).drew, by simp [hz1]⟩; rw [hw2]; clear hS; have hS := hS2; clear hS2 hw2; refine hK _ _ (fun _ => hS) ?_; clear hK K
      (try simp only [Act.put, zzT, zzO, zzS])
      refine seq_loud2 rfl (fun K hK => ?_)
      rw [if_pos (by rfl)]; refine wp_store_blk 115 _ _ rfl _ 0 rfl _ rfl _ #[.int .u8 0, .int .u8 0, .int .u8 0, .int .u64 0, .int .u64 0, .int .u64 0, .int .u64 0, .int .i64 0, .int .i64 0, .bool false, .int .i64 0, .slice none 0 0, .bool false, .int .i64 ((i : Int) + 1), .int .u8 mode, .int .u8 cs] _ kT (zzB rfl) (by kernel_rfl) rfl rfl ?_; intro w3 kT3 hU3 hs3; clear kT; have kT := kT3; have hS3 : Upd (fun _ => False) w1 w3 := hS.then (hU3) (fun k hk e => by omega); clear hS kT3 hU3; have hS := hS3; clear hS3; refine hK _ _ (fun _ => hS) ?_; clear hK K
      (try simp only [Act.put, zzT, zzO, zzS])
      refine seq_nil ?_
      have kR := hS.heap k1 (fun h => h)
      replace g0 := hS.cell g0 (fun h => h)
      replace g2 := hS.cell g2 (fun h => h)
      have hB : Below w.heap.size w w3 := hB1.trans (hS.below (by omega) (fun _ _ h => h))
      have hz : w.heap.size + 2 ≤ w3.heap.size := by omega
      clear hS k1 hB1 hz1 hz2 hs3 g6 hsum
      go_wp2_with (first
        | (go_at_call 80; refine (rplain_any _ _).mono ?_; rintro e w' ⟨rfl, rfl⟩)
        | (go_at_call 79
           refine (in_any _ _ _ (plainL_size mode)).mono ?_
           rw [F3.out]
           rintro e w' ⟨rfl, rfl⟩)
        | (with_reducible refine stopSt 113 _ _ rfl ?_; unfold Stop
           refine wpList_store_blk rfl 113 _ _ rfl _ _ rfl _ (by go_simp; first | done | exact rfl) _ _ _ kT (zzB rfl) (by kernel_rfl) rfl (by simp only [spl, Value.cells, zzT, zzO, zzS, Array.toList]; exact rfl) ?_
           intro wn kn hUn hsn
           replace kR := hUn.heap kR (by omega)
           replace kT := kn
           replace g0 := hUn.cell g0 (by show ¬ rb = _; omega)
           replace g2 := hUn.cell g2 (by show ¬ rb = _; omega)
           replace hB := hB.trans (hUn.below (by omega) (fun k hk e => by omega))
           replace hz : w.heap.size + 2 ≤ wn.heap.size := by omega
           clear kn hUn hsn)
        | (with_reducible refine stopSt 5 _ _ rfl ?_; unfold Stop
           refine wpList_store_blk rfl 5 _ _ rfl _ _ rfl _ (by go_simp; first | done | exact rfl) _ _ _ kT (zzB rfl) (by kernel_rfl) rfl (by simp only [spl, Value.cells, zzT, zzO, zzS, Array.toList]; exact rfl) ?_
           intro wn kn hUn hsn
           replace kR := hUn.heap kR (by omega)
           replace kT := kn
           replace g0 := hUn.cell g0 (by show ¬ rb = _; omega)
           replace g2 := hUn.cell g2 (by show ¬ rb = _; omega)
           replace hB := hB.trans (hUn.below (by omega) (fun k hk e => by omega))
           replace hz : w.heap.size + 2 ≤ wn.heap.size := by omega
           clear kn hUn hsn)
        | (with_reducible refine stopLd 115 _ rfl ?_; unfold Stop
           refine wpList_load_row rfl 115 _ rfl _ rfl 115 _ (0, 0) _ kT Try.underlying115 rfl (by kernel_rfl) ?_)
        | (with_reducible refine stopSt 115 _ _ rfl ?_; unfold Stop
           refine wpList_store_blk rfl 115 _ _ rfl _ _ rfl _ (by go_simp; first | done | exact rfl) _ _ _ kR (zzB rfl) (by kernel_rfl) rfl (by simp only [spl, Value.cells, zzT, zzO, zzS, Array.toList]; exact rfl) ?_
           intro wn kn hUn hsn
           replace kT := hUn.heap kT (by omega)
           replace kR := kn
           replace g0 := hUn.cell g0 (by show ¬ rb = _; omega)
           replace g2 := hUn.cell g2 (by show ¬ rb = _; omega)
           replace hB := hB.trans (hUn.below (by omega) (fun k hk e => by omega))
           replace hz : w.heap.size + 2 ≤ wn.heap.size := by omega
           clear kn hUn hsn))
      all_goals exact bodyPost_ret (v := .tuple #[.agg _, .bool _]) (results_blk_tmp Try.results62 _ _ w.heap.size 115 _ (0, 0) _ rfl kR Try.underlying115 rfl (by kernel_rfl)) rfl ⟨by simp [tokC, NodeD.zero, SetD.zero], hB⟩
end Go.Proofs.Ytigbfgmgdfnhcaa
namespace Go.Proofs.Ytigbfgmgdfnhcaa
open Go.RowKit
section
variable {P : Program} (w : World)
theorem run_append_own2 (base : Nat) (t ty e : TypeId) (i : TypeInfo) (z : Value) (size bytes : Nat) (ht : P.underlying t = some (.slice e)) (hi : P.info? e = some i) (hz : i.zero = some z)
    (hsize : i.size = size) (hby : i.bytes = bytes) (hzs : z.cells.size = size) (hsz : 0 < size)
    (v : Value) (n : Nat) (xs : List Value) (hown : w.ownsRow base e size v n xs)
    (a : Addr) (m c : Nat) (news : List Value) (hl : news.length = m * size) (hnews : ∀ j u, news[j]? = some u → w.cell? (a.add j) = some u) (h1 : ∀ u ∈ news, u.oneCell' = true)
    (h63 : n + m ≤ maxLen) (hbytes : (n + m) * bytes ≤ 140737488355328) (hbase : base ≤ w.heap.size) :
    ∃ v' w', (Builtin.append_ #[t, t] ty #[v, .slice (some a) m c]).run P w = .ok v' w' ∧ w'.ownsRow base e size v' (n + m) (xs ++ news) ∧ w.grownBy w' v.ownBlock ∧
      (v'.ownBlock = v.ownBlock ∨ v'.ownBlock = some w.heap.size) := by
  obtain ⟨v', w', hr, ho, hg, hn⟩ := run_append_own (P := P) w base t ty e i z size bytes ht hi hz hsize hby hzs hsz v n xs hown a m c news hl hnews h1 h63 hbytes hbase
  refine ⟨v', w', hr, ho, hg, ?_⟩
  subst hsize
  have hbytes' := hbytes
  subst hby
  rcases hown.2 with ⟨rfl, rfl⟩ | ⟨g, cap, cur, rfl, hbg, hgg, hnc, hcm, hcs, htake⟩
  · by_cases hm : m = 0
    · left
      rw [hn.2 ⟨rfl, hm⟩]
    · right
      have hr2 := run_append_nil (P := P) w t ty e i z ht hi hz a m c news hl hnews (by omega) (by unfold maxLen at h63; omega) (by simp only [Nat.zero_add] at hbytes; omega)
      rw [hr2] at hr
      injection hr with e1 e2
      rw [← e1]
      simp [Value.ownBlock]
  · by_cases hroom : n + m ≤ cap
    · left
      have hfit : n * i.size + news.length ≤ cur.size := by rw [hl, hcs, ← Nat.add_mul]; exact Nat.mul_le_mul_right _ hroom
      have hr2 := run_append_room (P := P) w t ty e i ht hi g n cap cur hgg a m c news hl hnews h1 hroom hfit
      rw [hr2] at hr
      injection hr with e1 e2
      rw [← e1]
      rfl
    · right
      have holds : ∀ j u, xs[j]? = some u → w.cell? ((⟨g, 0, none⟩ : Addr).add j) = some u := hown.cells (g := g) rfl
      have hr2 := run_append_grow (P := P) w t ty e i z ht hi hz ⟨g, 0, none⟩ n cap xs hown.1 holds a m c news hl hnews (by omega) (by unfold maxLen at h63; omega) (growslice_fits (by omega) hbytes')
      rw [hr2] at hr
      injection hr with e1 e2
      rw [← e1]
      simp [Value.ownBlock]
theorem wp_append_own2 {o : Oper} {a : Act} {K : Act → World → Prop} {Q : Exit → Act → World → Prop} (s x : Operand) (t : TypeId)
    (ho : o.op = .call { callee := .builtin .append, args := #[s, x], argTypes := #[t, t] })
    (base : Nat) (e : TypeId) (i : TypeInfo) (z : Value) (size bytes : Nat) (ht : P.underlying t = some (.slice e)) (hi : P.info? e = some i) (hz : i.zero = some z)
    (hsize : i.size = size) (hby : i.bytes = bytes) (hzs : z.cells.size = size) (hsz : 0 < size)
    (v : Value) (n : Nat) (xs : List Value) (hs : a.eval s = v) (hown : w.ownsRow base e size v n xs)
    (ad : Addr) (m c : Nat) (news : List Value) (hx : a.eval x = .slice (some ad) m c) (hl : news.length = m * size) (hnews : ∀ j u, news[j]? = some u → w.cell? (ad.add j) = some u) (h1 : ∀ u ∈ news, u.oneCell' = true)
    (h63 : n + m ≤ maxLen) (hbytes : (n + m) * bytes ≤ 140737488355328) (hbase : base ≤ w.heap.size)
    (h : ∀ v' w', w'.ownsRow base e size v' (n + m) (xs ++ news) → w.grownBy w' v.ownBlock → (v'.ownBlock = v.ownBlock ∨ v'.ownBlock = some w.heap.size) → K (a.put o.dst v') w') : o.wp P a w K Q := by
  obtain ⟨v', w', hr, h2, h3, h4⟩ := run_append_own2 (P := P) w base t o.type e i z size bytes ht hi hz hsize hby hzs hsz v n xs hown ad m c news hl hnews h1 h63 hbytes hbase
  unfold Oper.wp execOp
  simp only [ho, resolve, invoke, builtin, Sem.run_bind, Sem.run_pure, Result.andThen_ok, List.map_toArray, List.map_cons, List.map_nil, hs, hx, hr]
  exact h v' w' h2 h3 h4
theorem wpList_append_own2 {ops : Array Oper} {rest : List Oper} {o : Oper} {a : Act} {Q : Exit → Act → World → Prop} (hgd : o.guard = none) (s x : Operand) (t : TypeId)
    (ho : o.op = .call { callee := .builtin .append, args := #[s, x], argTypes := #[t, t] })
    (base : Nat) (e : TypeId) (i : TypeInfo) (z : Value) (size bytes : Nat) (ht : P.underlying t = some (.slice e)) (hi : P.info? e = some i) (hz : i.zero = some z)
    (hsize : i.size = size) (hby : i.bytes = bytes) (hzs : z.cells.size = size) (hsz : 0 < size)
    (v : Value) (n : Nat) (xs : List Value) (hs : a.eval s = v) (hown : w.ownsRow base e size v n xs)
    (ad : Addr) (m c : Nat) (news : List Value) (hx : a.eval x = .slice (some ad) m c) (hl : news.length = m * size) (hnews : ∀ j u, news[j]? = some u → w.cell? (ad.add j) = some u) (h1 : ∀ u ∈ news, u.oneCell' = true)
    (h63 : n + m ≤ maxLen) (hbytes : (n + m) * bytes ≤ 140737488355328) (hbase : base ≤ w.heap.size)
    (h : ∀ v' w', w'.ownsRow base e size v' (n + m) (xs ++ news) → w.grownBy w' v.ownBlock → (v'.ownBlock = v.ownBlock ∨ v'.ownBlock = some w.heap.size) → wpList P ops Q rest (a.put o.dst v') w') : wpList P ops Q (o :: rest) a w :=
  wpList_plain hgd fun _ hK => wp_append_own2 w s x t ho base e i z size bytes ht hi hz hsize hby hzs hsz v n xs hs hown ad m c news hx hl hnews h1 h63 hbytes hbase fun v' w' h2 h3 h4 => hK _ _ (h v' w' h2 h3 h4)
end
end Go.Proofs.Ytigbfgmgdfnhcaa
namespace Go.Proofs.Ytigbfgmgdfnhcaa
open Go.RowKit
/-- Numbers in memory. -/
def NatsAt (w : World) (v : Value) (ks : List Nat) : Prop :=
  ∃ a cap, v = .slice a ks.length cap ∧ ∀ i (h : i < ks.length), ∃ b o, a = some ⟨b, o, none⟩ ∧ w.cell? ⟨b, o + i, none⟩ = some (.int .i64 ((ks[i] : Nat) : Int))
theorem NatsAt.upd {F : Nat → Prop} {w w' : World} {v : Value} {ks : List Nat} (h : NatsAt w v ks) (hu : Upd F w w') (hF : ∀ g, v.ownBlock = some g → ¬ F g) : NatsAt w' v ks := by
  obtain ⟨a, cap, rfl, h⟩ := h
  refine ⟨a, cap, rfl, fun i hi => ?_⟩
  obtain ⟨b, o, rfl, hc⟩ := h i hi
  exact ⟨b, o, rfl, hu.cell hc (hF b rfl)⟩
theorem NatsAt.nil (w : World) (a : Option Addr) (cap : Nat) : NatsAt w (.slice a 0 cap) [] := ⟨a, cap, rfl, fun i hi => by simp at hi⟩
def nodeC (n : NodeD) (kv : Value) : List Value := [.int .u8 n.op, .int .u8 n.c, .int .u64 n.set.a0, .int .u64 n.set.a1, .int .u64 n.set.a2, .int .u64 n.set.a3, .int .i64 n.min, .int .i64 n.max, .bool n.lzy, .int .i64 n.n, kv]
def nodesC : List NodeD → List Value → List Value
  | n :: ns, kv :: kvs => nodeC n kv ++ nodesC ns kvs
  | _, _ => []
theorem nodesC_snoc : ∀ (ns : List NodeD) (kvs : List Value) (n : NodeD) (kv : Value), ns.length = kvs.length → nodesC (ns ++ [n]) (kvs ++ [kv]) = nodesC ns kvs ++ nodeC n kv
  | [], [], n, kv, _ => by simp [nodesC]
  | a :: ns, b :: kvs, n, kv, h => by
    have := nodesC_snoc ns kvs n kv (by simpa using h)
    simp only [List.cons_append, nodesC, List.append_assoc, this]
  | [], _ :: _, _, _, h => by simp at h
  | _ :: _, [], _, _, h => by simp at h
def rdC (s : ByteArray) (st : RdD) (nv : Value) : Array Value := #[.string s, .int .i64 st.pos, .int .u8 st.mode, nv, .int .i64 0, .int .i64 0, .int .u8 st.case,
  .bool (st.done.getD 0 false), .bool (st.done.getD 1 false), .bool (st.done.getD 2 false), .bool (st.done.getD 3 false), .bool (st.done.getD 4 false), .bool (st.done.getD 5 false), .bool (st.done.getD 6 false), .bool (st.done.getD 7 false), .bool (st.done.getD 8 false), .bool (st.done.getD 9 false),
  .int .i64 st.err, .int .i64 st.place, .int .i64 st.groups, .string ⟨#[]⟩]
/-- A reader: its block, its nodes' row, their kids in blocks of Z, which no call writes. -/
structure RdAt (w : World) (B rb : Nat) (s : ByteArray) (st : RdD) (nv : Value) (kvs : List Value) (Z : Nat → Prop) : Prop where
  base : B ≤ rb
  blk : w.heap[rb]? = some (.cells (rdC s st nv) 96 (0, 0))
  own : w.ownsRow B 113 11 nv st.nodes.length (nodesC st.nodes kvs)
  len : st.nodes.length = kvs.length
  kids : ∀ i (h : i < st.nodes.length) (h2 : i < kvs.length), NatsAt w kvs[i] st.nodes[i].kids ∧ ∀ g, kvs[i].ownBlock = some g → Z g
  zone : ∀ k, Z k → ∃ cs fr, w.heap[k]? = some (.cells cs 3 fr)
  done : st.done.length = 10
theorem ownBlock_node {w : World} {B n : Nat} {v : Value} {xs : List Value} (h : w.ownsRow B 113 11 v n xs) {g : Nat} (hg : v.ownBlock = some g) : ∃ cs, w.heap[g]? = some (.cells cs 113 (0, 0)) := by
  rcases h.2 with ⟨rfl, _⟩ | ⟨g', cap, cur, rfl, _, hb, _⟩
  · simp [Value.ownBlock] at hg
  · simp only [Value.ownBlock, Option.some.injEq] at hg
    subst hg
    exact ⟨cur, hb⟩
theorem RdAt.nvne {w : World} {B rb : Nat} {s : ByteArray} {st : RdD} {nv : Value} {kvs : List Value} {Z : Nat → Prop} (h : RdAt w B rb s st nv kvs Z) : nv.ownBlock ≠ some rb := by
  intro e
  obtain ⟨cs, hc⟩ := ownBlock_node h.own e
  rw [h.blk] at hc
  simp at hc
theorem RdAt.zne {w : World} {B rb : Nat} {s : ByteArray} {st : RdD} {nv : Value} {kvs : List Value} {Z : Nat → Prop} (h : RdAt w B rb s st nv kvs Z) {k : Nat} (hk : Z k) : k ≠ rb ∧ nv.ownBlock ≠ some k := by
  obtain ⟨cs, fr, hc⟩ := h.zone k hk
  refine ⟨fun e => ?_, fun e => ?_⟩
  · subst e; rw [h.blk] at hc; simp at hc
  · obtain ⟨cs2, hc2⟩ := ownBlock_node h.own e
    rw [hc2] at hc
    simp at hc
/-- The reader's block alone turns. -/
theorem RdAt.set {w w' : World} {B rb : Nat} {s : ByteArray} {st st2 : RdD} {nv : Value} {kvs : List Value} {Z : Nat → Prop} (h : RdAt w B rb s st nv kvs Z) (hu : Upd (fun k => k = rb) w w') (hb : w'.heap[rb]? = some (.cells (rdC s st2 nv) 96 (0, 0))) (hn : st2.nodes = st.nodes) (hd : st2.done.length = 10) :
    RdAt w' B rb s st2 nv kvs Z := by
  refine ⟨h.base, hb, ?_, by rw [hn]; exact h.len, ?_, fun k hk => ?_, hd⟩
  · rw [hn]
    exact ownsRow_upd h.own hu (fun g hg e => h.nvne (by rw [hg, e]))
  · intro i h1 h2
    have h1' : i < st.nodes.length := by rw [← hn]; exact h1
    obtain ⟨h3, h4⟩ := h.kids i h1' h2
    have e : st2.nodes[i] = st.nodes[i] := by simp only [hn]
    rw [e]
    exact ⟨h3.upd hu (fun g hg e => (h.zne (h4 g hg)).1 e), h4⟩
  · obtain ⟨cs, fr, hc⟩ := h.zone k hk
    exact ⟨cs, fr, hu.heap hc (h.zne hk).1⟩
/-- The world turns elsewhere. -/
theorem RdAt.upd {F : Nat → Prop} {w w' : World} {B rb : Nat} {s : ByteArray} {st : RdD} {nv : Value} {kvs : List Value} {Z : Nat → Prop} (h : RdAt w B rb s st nv kvs Z) (hu : Upd F w w') (h1 : ¬ F rb) (h2 : ∀ g, nv.ownBlock = some g → ¬ F g) (h3 : ∀ k, Z k → ¬ F k) : RdAt w' B rb s st nv kvs Z := by
  refine ⟨h.base, hu.heap h.blk h1, ownsRow_upd h.own hu h2, h.len, ?_, fun k hk => ?_, h.done⟩
  · intro i g1 g2
    obtain ⟨h5, h4⟩ := h.kids i g1 g2
    exact ⟨h5.upd hu (fun g hg => h3 g (h4 g hg)), h4⟩
  · obtain ⟨cs, fr, hc⟩ := h.zone k hk
    exact ⟨cs, fr, hu.heap hc (h3 k hk)⟩
theorem RdAt.below {w w' : World} {B rb : Nat} {s : ByteArray} {st : RdD} {nv : Value} {kvs : List Value} {Z : Nat → Prop} (h : RdAt w B rb s st nv kvs Z) (hb : Below w.heap.size w w') : RdAt w' B rb s st nv kvs Z :=
  h.upd (false_upd2 hb) (fun h => h) (fun _ _ h => h) (fun _ _ h => h)
set_option maxHeartbeats 1000000 in
theorem wrong_any {w : World} {B rb : Nat} {s : ByteArray} {st : RdD} {nv : Value} {kvs : List Value} {Z : Nat → Prop} (h : RdAt w B rb s st nv kvs Z) (e : Int) (i : Nat) :
    Calls Try.prog 74 #[.pointer (some ⟨rb, 0, none⟩), .int .i64 e, .int .i64 i] w fun en w' => en = .returned (.tuple #[]) ∧ RdAt w' B rb s (st.wrong e i) nv kvs Z ∧ Upd (fun k => k = rb) w w' := by
  have HR := Lib.hid h
  have kR := h.blk
  have c5 := cell_of kR 17 (v := .int .i64 st.err) rfl
  have f5 := free_of kR 17
  have c6 := cell_of kR 18 (v := .int .i64 st.place) rfl
  have f6 := free_of kR 18
  have KR := Lib.hid kR
  clear h kR
  unfold RdD.wrong
  by_cases h0 : st.err = 0
  · rw [if_pos h0]
    have hz : (st.err == 0) = true := by simpa using h0
    go_enter Try.func74, Try.ntmps74
    go_wp2
    go_end0
    have hU := ((Upd.refl (fun k => k = rb) w).setCell (p := ⟨rb, 17, none⟩) (fun _ => rfl) (.int .i64 e)).setCell (p := ⟨rb, 18, none⟩) (fun _ => rfl) (.int .i64 i)
    exact ⟨rfl, HR.out.set hU (heap_set (heap_set KR.out 17 _) 18 _) rfl HR.out.done, hU⟩
  · rw [if_neg h0]
    have hz : (st.err == 0) = false := by simpa using h0
    go_enter Try.func74, Try.ntmps74
    go_wp2
    go_end0
    exact ⟨rfl, HR.out, Upd.refl _ _⟩
end Go.Proofs.Ytigbfgmgdfnhcaa
namespace Go.Proofs.Ytigbfgmgdfnhcaa
open Go.RowKit
/-- What becomes of a reader: its nodes' row stays or lies in new memory; new kids lie in blocks of Y or in new memory. -/
def RdTo (w : World) (B rb : Nat) (s : ByteArray) (nv : Value) (Z Y : Nat → Prop) (st2 : RdD) (w' : World) : Prop :=
  ∃ nv' kvs' Z', RdAt w' B rb s st2 nv' kvs' Z' ∧ Upd (fun k => k = rb ∨ nv.ownBlock = some k) w w' ∧ (∀ g, nv'.ownBlock = some g → nv.ownBlock = some g ∨ w.heap.size ≤ g) ∧ (∀ k, Z k → Z' k) ∧ ∀ k, Z' k → Z k ∨ Y k ∨ w.heap.size ≤ k
theorem info_node : (Try.prog.info? 113).map (fun i => (i.zero, i.size, i.bytes)) = some (some (.agg #[.int .u8 0, .int .u8 0, .int .u64 0, .int .u64 0, .int .u64 0, .int .u64 0, .int .i64 0, .int .i64 0, .bool false, .int .i64 0, .slice none 0 0]), 11, 96) := by kernel_rfl
theorem RdAt.add {w w' : World} {B rb : Nat} {s : ByteArray} {st : RdD} {nv nv' : Value} {kvs : List Value} {Z : Nat → Prop} (h : RdAt w B rb s st nv kvs Z) (n : NodeD) (kv : Value) (hk : NatsAt w kv n.kids) (hk2 : ∀ g, kv.ownBlock = some g → ∃ cs fr, w.heap[g]? = some (.cells cs 3 fr))
    (hu : Upd (fun k => k = rb ∨ nv.ownBlock = some k) w w') (hb : w'.heap[rb]? = some (.cells (rdC s { st with nodes := st.nodes ++ [n] } nv') 96 (0, 0))) (ho : w'.ownsRow B 113 11 nv' (st.nodes.length + 1) (nodesC st.nodes kvs ++ nodeC n kv))
    (hn : ∀ g, nv'.ownBlock = some g → nv.ownBlock = some g ∨ w.heap.size ≤ g) :
    RdTo w B rb s nv Z (fun k => kv.ownBlock = some k) { st with nodes := st.nodes ++ [n] } w' := by
  have int_ne : ∀ g cs fr, w.heap[g]? = some (.cells cs 3 fr) → ¬ (g = rb ∨ nv.ownBlock = some g) := by
    rintro g cs fr hc (e | e)
    · subst e; rw [h.blk] at hc; simp at hc
    · obtain ⟨cs2, hc2⟩ := ownBlock_node h.own e
      rw [hc2] at hc
      simp at hc
  refine ⟨nv', kvs ++ [kv], fun k => Z k ∨ kv.ownBlock = some k, ⟨h.base, hb, ?_, by simp [h.len], ?_, ?_, h.done⟩, hu, hn, fun k hk => .inl hk, fun k hk => hk.elim .inl (fun h => .inr (.inl h))⟩
  · rw [nodesC_snoc _ _ _ _ h.len]
    simpa using ho
  · intro i h1 h2
    by_cases hi : i < st.nodes.length
    · obtain ⟨h3, h4⟩ := h.kids i hi (by rw [← h.len]; exact hi)
      simp only [List.getElem_append_left hi, List.getElem_append_left (show i < kvs.length by rw [← h.len]; exact hi)]
      refine ⟨h3.upd hu (fun g hg => ?_), fun g hg => .inl (h4 g hg)⟩
      obtain ⟨cs, fr, hc⟩ := h.zone g (h4 g hg)
      exact int_ne g cs fr hc
    · have hi1 : i = st.nodes.length := by simp at h1; omega
      subst hi1
      have e1 : (st.nodes ++ [n])[st.nodes.length]'(by simp) = n := by simp
      have e2 : (kvs ++ [kv])[st.nodes.length]'(by simp [h.len]) = kv := by simp [h.len]
      simp only [e1, e2]
      refine ⟨hk.upd hu (fun g hg => ?_), fun g hg => .inr hg⟩
      obtain ⟨cs, fr, hc⟩ := hk2 g hg
      exact int_ne g cs fr hc
  · rintro k (hz | hz)
    · obtain ⟨cs, fr, hc⟩ := h.zone k hz
      exact ⟨cs, fr, hu.heap hc (int_ne k cs fr hc)⟩
    · obtain ⟨cs, fr, hc⟩ := hk2 k hz
      exact ⟨cs, fr, hu.heap hc (int_ne k cs fr hc)⟩
theorem own_at {w w1 w2 : World} {B n : Nat} {v : Value} {xs : List Value} {b : Nat} {NBs : Array Value} (h : w.ownsRow B 113 11 v n xs) (hb : Below w.heap.size w w1) (hlt : ∀ g, v.ownBlock = some g → g < w.heap.size) (hu : Upd (fun _ => False) w1 w2) (_ : w2.heap[b]? = some (.cells NBs 113 (0, 0))) : w2.ownsRow B 113 11 v n xs :=
  ownsRow_upd (ownsRow_upd h (false_upd2 hb) (fun _ _ h => h)) hu (fun _ _ h => h)
theorem row_cells {w : World} {b : Nat} {n : NodeD} {kv : Value} (h : w.heap[b]? = some (.cells (nodeC n kv).toArray 113 (0, 0))) : ∀ j u, (nodeC n kv)[j]? = some u → w.cell? ((⟨b, 0, none⟩ : Addr).add j) = some u := by
  intro j u hu
  rw [Addr.add_lit, Nat.zero_add]
  exact cell_of h j (by simpa using hu)
theorem own_form {w : World} {B n : Nat} {v : Value} {xs : List Value} (h : w.ownsRow B 113 11 v (n + 1) xs) : ∃ g c, v = .slice (some ⟨g, 0, none⟩) (n + 1) c := by
  rcases h.2 with ⟨_, h0⟩ | ⟨g, cap, cur, rfl, _⟩
  · omega
  · exact ⟨g, cap, rfl⟩
def NodePost (w : World) (B rb : Nat) (s : ByteArray) (st : RdD) (nv : Value) (Z : Nat → Prop) (n : NodeD) (kv : Value) (e : Ending) (w' : World) : Prop :=
  e = .returned (.int .i64 ((st.node n).1 : Nat)) ∧ RdTo w B rb s nv Z (fun k => kv.ownBlock = some k) (st.node n).2 w'
set_option maxRecDepth 100000 in
set_option maxHeartbeats 4000000 in
theorem node_any {w : World} {B rb : Nat} {s : ByteArray} {st : RdD} {nv : Value} {kvs : List Value} {Z : Nat → Prop} (h : RdAt w B rb s st nv kvs Z) (hB : B ≤ w.heap.size) (n : NodeD) (kv : Value) (hk : NatsAt w kv n.kids) (hk2 : ∀ g, kv.ownBlock = some g → ∃ cs fr, w.heap[g]? = some (.cells cs 3 fr)) (hl : st.nodes.length ≤ 401) :
    Calls Try.prog 77 #[.pointer (some ⟨rb, 0, none⟩), .agg (nodeC n kv).toArray] w (NodePost w B rb s st nv Z n kv) := by
  have HR := Lib.hid h
  have HK := Lib.hid hk
  have HK2 := Lib.hid hk2
  have hkform := hk
  obtain ⟨ka, kc, rfl, _⟩ := hkform
  have hrb := heap_lt h.blk
  obtain ⟨w1, hw1, hB1, k1, kR⟩ : ∃ w1, w.alloc (.cells #[.int .u8 n.op, .int .u8 n.c, .int .u64 n.set.a0, .int .u64 n.set.a1, .int .u64 n.set.a2, .int .u64 n.set.a3, .int .i64 n.min, .int .i64 n.max, .bool n.lzy, .int .i64 n.n, .slice ka n.kids.length kc] 113) = w1 ∧ Below w.heap.size w w1 ∧ w1.heap[w.heap.size]? = some (.cells #[.int .u8 n.op, .int .u8 n.c, .int .u64 n.set.a0, .int .u64 n.set.a1, .int .u64 n.set.a2, .int .u64 n.set.a3, .int .i64 n.min, .int .i64 n.max, .bool n.lzy, .int .i64 n.n, .slice ka n.kids.length kc] 113 (0, 0)) ∧ w1.heap[rb]? = some (.cells (rdC s st nv) 96 (0, 0)) :=
    ⟨_, rfl, (Below.refl _ _).alloc (Nat.le_refl _) _, heap_alloc_new _ _, heap_old2 h.blk _⟩
  have HB1 := Lib.hid hB1
  have hnv := h.own
  obtain ⟨na, nn, nc, rfl⟩ : ∃ na nn nc, nv = .slice na nn nc := by
    rcases hnv.2 with ⟨rfl, _⟩ | ⟨g, cap, cur, rfl, _⟩
    · exact ⟨_, _, _, rfl⟩
    · exact ⟨_, _, _, rfl⟩
  obtain rfl : nn = st.nodes.length := by
    rcases hnv.2 with ⟨e, h0⟩ | ⟨g, cap, cur, e, _⟩
    · cases e; exact h0.symm
    · cases e; rfl
  have c3 := cell_of kR 3 (v := .slice na st.nodes.length nc) rfl
  have HW1 := Lib.hid hw1
  clear h hk hk2 hnv hw1 hB1
  unfold NodePost RdD.node
  by_cases hlt : 400 < st.nodes.length
  · rw [if_pos hlt]
    have hlt2 : (400 : Int) < (st.nodes.length : Int) := by omega
    have HC3 := Lib.hid c3
    have g3 : (w.alloc (.cells #[.int .u8 n.op, .int .u8 n.c, .int .u64 n.set.a0, .int .u64 n.set.a1, .int .u64 n.set.a2, .int .u64 n.set.a3, .int .i64 n.min, .int .i64 n.max, .bool n.lzy, .int .i64 n.n, .slice ka n.kids.length kc] 113)).cell? ⟨rb, 3, none⟩ = some (.slice na st.nodes.length nc) := by rw [HW1.out]; exact HC3.out
    unfold nodeC
    go_enter Try.func77, Try.ntmps77
    go_wp2
    go_ret
    rw [HW1.out]
    exact ⟨rfl, _, kvs, Z, HR.out.below HB1.out, (false_upd2 HB1.out).mono (fun _ _ h => h.elim), fun g hg => .inl hg, fun _ h => h, fun k hk => .inl hk⟩
  · rw [if_neg hlt]
    have hlt2 : ¬ (400 : Int) < (st.nodes.length : Int) := by omega
    have HC3 := Lib.hid c3
    have g3 : (w.alloc (.cells #[.int .u8 n.op, .int .u8 n.c, .int .u64 n.set.a0, .int .u64 n.set.a1, .int .u64 n.set.a2, .int .u64 n.set.a3, .int .i64 n.min, .int .i64 n.max, .bool n.lzy, .int .i64 n.n, .slice ka n.kids.length kc] 113)).cell? ⟨rb, 3, none⟩ = some (.slice na st.nodes.length nc) := by rw [HW1.out]; exact HC3.out
    have hnlt : ∀ g, (Value.slice na st.nodes.length nc).ownBlock = some g → g < w.heap.size := fun g hg => (HR.out.own.lt g hg).2
    have hne : ¬ (Value.slice na st.nodes.length nc).ownBlock = some rb := HR.out.nvne
    have hne2 : ¬ (Value.slice na st.nodes.length nc).ownBlock = some w.heap.size := fun e => by have := hnlt _ e; omega
    have HN := Lib.hid hnlt
    have hz1 : w1.heap.size = w.heap.size + 1 := by rw [← HW1.out]; simp
    obtain ⟨i0, hi, hz0, hz3, hz4⟩ := info_parts info_node
    clear hnlt c3
    unfold nodeC
    go_enter Try.func77, Try.ntmps77
    go_wp2
    rw [HW1.out]
    clear g3
    refine wp_region_seq (fun v => Upd (fun k => (Value.slice na st.nodes.length nc).ownBlock = some k) w1 v) (fun i => i != 12) [(0, true), (1, true), (2, true), (3, true), (4, true), (5, true), (6, true), (7, false), (8, false), (9, true), (10, true), (11, true), (12, false)] (by exact rfl) (by kernel_rfl) (by intro c a d v w h; cases d <;> exact h) ?_
    have hS : Upd (fun k => (Value.slice na st.nodes.length nc).ownBlock = some k) w1 w1.drew := (Upd.refl _ _).drew
    iterate 6 (((apply seq_val2 rfl (by rfl); (focus (intro w' hS'; have s3 := hS'.cell HC3.out hne; go_simp; (first | done | exact rfl | (rw [if_pos (by omega)]; done)))); (focus exact hS))); (try simp only [Act.put, zzT, zzO, zzS]))
    (apply seq_val2 rfl (by rfl); (focus (intro w' hS'; have s3 := hS'.cell HC3.out hne; exact exec_load_blk 113 _ rfl w.heap.size rfl 113 _ (0, 0) _ (hS'.heap k1 hne2) Try.underlying113 rfl (by kernel_rfl))); (focus exact hS))
    (try simp only [Act.put, zzT, zzO, zzS])
    refine seq_loud2 rfl (fun K hK => ?_)
    go_simp; obtain ⟨w2, hw2, k2, hS2, hz2, hS0⟩ : ∃ w2, (w1.alloc (.cells #[.int .u8 n.op, .int .u8 n.c, .int .u64 n.set.a0, .int .u64 n.set.a1, .int .u64 n.set.a2, .int .u64 n.set.a3, .int .i64 n.min, .int .i64 n.max, .bool n.lzy, .int .i64 n.n, .slice ka n.kids.length kc] 113)).drew = w2 ∧ w2.heap[w.heap.size + 1]? = some (.cells #[.int .u8 n.op, .int .u8 n.c, .int .u64 n.set.a0, .int .u64 n.set.a1, .int .u64 n.set.a2, .int .u64 n.set.a3, .int .i64 n.min, .int .i64 n.max, .bool n.lzy, .int .i64 n.n, .slice ka n.kids.length kc] 113 (0, 0)) ∧ Upd (fun k => (Value.slice na st.nodes.length nc).ownBlock = some k) w1 w2 ∧ w2.heap.size = w.heap.size + 2 ∧ Hid (Upd (fun _ => False) w1 w2) := ⟨_, rfl, hz1 ▸ heap_alloc_new w1 _, ((Upd.refl _ w1).alloc _).drew, by simp [hz1], Lib.hid ((Upd.refl _ w1).alloc _).drew⟩; rw [hw2]; clear hS; have hS := hS2; clear hS2 hw2; refine hK _ _ (fun _ => hS) ?_; clear hK K
    (try simp only [Act.put, zzT, zzO, zzS])
    refine seq_loud2 rfl (fun K hK => ?_)
    rw [if_pos (by rfl)]; refine wp_append_own2 _ _ _ 67 rfl B 113 i0 _ 11 96 Try.underlying67 hi hz0 hz3 hz4 rfl (by decide) (Value.slice na st.nodes.length nc) _ _ rfl (own_at HR.out.own HB1.out HN.out hS0.out k2) ⟨w.heap.size + 1, 0, none⟩ 1 1 (nodeC n (.slice ka n.kids.length kc)) rfl rfl (row_cells k2) (by intro u hu; simp only [nodeC, List.mem_cons, List.not_mem_nil, or_false] at hu; rcases hu with rfl | rfl | rfl | rfl | rfl | rfl | rfl | rfl | rfl | rfl | rfl <;> rfl) (by unfold maxLen; omega) (by omega) (by omega) ?_; intro v3 w3 ho3 hg3 hn3; have hS3 : Upd (fun k => (Value.slice na st.nodes.length nc).ownBlock = some k) w1 w3 := hS.grown hg3 (fun k _ e => e); clear hS; have hS := hS3; clear hS3; obtain ⟨g4, c4, rfl⟩ := own_form ho3; have s33 := hS.cell HC3.out hne; have f33 := free_of (hS.heap kR hne) 3; have hg3s := hg3.size; refine hK _ _ (fun _ => hS) ?_; clear hK K
    (try simp only [Act.put, zzT, zzO, zzS])
    iterate 3 (((apply seq_val2 rfl (by rfl); (focus (intro w' hS'; have s3 := hS'.cell HC3.out hne; go_simp; (first | done | exact rfl | (rw [if_pos (by omega)]; done)))); (focus exact hS))); (try simp only [Act.put, zzT, zzO, zzS]))
    refine seq_loud2 rfl (fun K hK => ?_)
    go_simp; refine hK _ _ (fun e => by cases e) ?_; clear hK K
    (try simp only [Act.put, zzT, zzO, zzS])
    refine seq_nil ?_
    have kR3 := hS.heap kR hne
    have hb4 := heap_set kR3 3 (.slice (some ⟨g4, 0, none⟩) (st.nodes.length + 1) c4)
    have t3 := cell_of hb4 3 (v := .slice (some ⟨g4, 0, none⟩) (st.nodes.length + 1) c4) rfl
    clear s33 f33
    go_wp2
    go_ret
    refine ⟨by simp, ?_⟩
    have hUf : Upd (fun k => k = rb ∨ (Value.slice na st.nodes.length nc).ownBlock = some k) w (w3.setCell ⟨rb, 3, none⟩ (.slice (some ⟨g4, 0, none⟩) (st.nodes.length + 1) c4)) :=
      (((false_upd2 HB1.out).mono (fun _ _ h => h.elim)).then hS (fun _ _ h => .inr h)).then ((Upd.refl (fun k => k = rb) w3).setCell (p := ⟨rb, 3, none⟩) (fun _ => rfl) _) (fun _ _ h => .inl h)
    refine HR.out.add n _ HK.out HK2.out hUf hb4 (ownsRow_set ho3 (fun e => ?_) _) (fun g hg => ?_)
    · rcases hn3 with h3 | h3
      · rw [h3] at e; exact hne e
      · rw [h3] at e; simp at e; omega
    · rcases hn3 with h3 | h3
      · left; rw [← h3]; exact hg
      · right; rw [h3] at hg; simp at hg; omega
end Go.Proofs.Ytigbfgmgdfnhcaa
