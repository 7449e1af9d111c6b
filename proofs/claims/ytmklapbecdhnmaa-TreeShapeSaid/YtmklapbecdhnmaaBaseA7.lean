/- Lemmas that the law's proof stands on, part 7: Tat, Seq. No condition. -/
import Derived.Test.YtmklapbecdhnmaaBaseA0
import Derived.OrdersHeld
import Derived.WalkKit
import Derived.Test.YtmklapbecdhnmaaBaseA4
import Derived.Test.YtmklapbecdhnmaaBaseA6
set_option linter.all false
set_option linter.unusedVariables false
set_option linter.unusedSimpArgs false
namespace Go.Proofs.Ytmklapbecdhnmaa
open Go.RowKit
inductive Slot where
  | T
  | N
  | F
  | L (k : Nat)
  | K (k : Nat)
  deriving DecidableEq
structure TV where
  bT : Nat
  gN : Nat
  cN : Nat
  C : Array Value
  fv : Value
  lv : Nat → Value
  kv : Nat → Value
def TV.own (V : TV) : Slot → Option Nat
  | .T => some V.bT
  | .N => some V.gN
  | .F => V.fv.ownBlock
  | .L k => (V.lv k).ownBlock
  | .K k => (V.kv k).ownBlock
def TV.nv (V : TV) (n : Nat) : Value := .slice (some ⟨V.gN, 0, none⟩) n V.cN
def treeC (V : TV) (T : TD) : Array Value := #[V.nv T.nodes.length, V.fv, .int .i64 (T.root : Int), .int .i64 T.bytes]
structure TA (w : World) (V : TV) (T : TD) : Prop where
  blk : w.heap[V.bT]? = some (.cells (treeC V T) 57 (0, 0))
  row : w.heap[V.gN]? = some (.cells V.C 61 (0, 0))
  siz : V.C.size = V.cN * 3
  cap : T.nodes.length ≤ V.cN
  max : V.cN ≤ maxLen
  cel : ∀ k, k < T.nodes.length → V.C[k * 3]? = some (V.lv k) ∧ V.C[k * 3 + 1]? = some (V.kv k) ∧ V.C[k * 3 + 2]? = some (.int .i64 ((T.get k).count : Int))
  fre : Row w 3 V.fv (natsC T.free)
  lin : ∀ k, k < T.nodes.length → Row w 9 (V.lv k) (strsC (T.get k).lines)
  kid : ∀ k, k < T.nodes.length → Row w 3 (V.kv k) (natsC (T.get k).kids)
  out : ∀ k, T.nodes.length ≤ k → V.lv k = .slice none 0 0 ∧ V.kv k = .slice none 0 0
  inj : ∀ s t b, V.own s = some b → V.own t = some b → s = t
theorem TA.lt {w : World} {V : TV} {T : TD} (h : TA w V T) {s : Slot} {b : Nat} (hb : V.own s = some b) : b < w.heap.size := by
  cases s with
  | T => injection hb with hb; subst hb; exact heap_lt h.blk
  | N => injection hb with hb; subst hb; exact heap_lt h.row
  | F => exact h.fre.lt hb
  | L k =>
    rcases Nat.lt_or_ge k T.nodes.length with hk | hk
    · exact (h.lin k hk).lt hb
    · have hb2 : (V.lv k).ownBlock = some b := hb
      rw [(h.out k hk).1] at hb2
      cases hb2
  | K k =>
    rcases Nat.lt_or_ge k T.nodes.length with hk | hk
    · exact (h.kid k hk).lt hb
    · have hb2 : (V.kv k).ownBlock = some b := hb
      rw [(h.out k hk).2] at hb2
      cases hb2
/-- Elsewhere something has turned. -/
theorem TA.upd {F : Nat → Prop} {w w' : World} {V : TV} {T : TD} (h : TA w V T) (hu : Upd F w w') (hn : ∀ s b, V.own s = some b → ¬ F b) : TA w' V T :=
  ⟨hu.heap h.blk (hn .T _ rfl), hu.heap h.row (hn .N _ rfl), h.siz, h.cap, h.max, h.cel, h.fre.upd hu (fun b hb => hn .F b hb), fun k hk => (h.lin k hk).upd hu (fun b hb => hn (.L k) b hb), fun k hk => (h.kid k hk).upd hu (fun b hb => hn (.K k) b hb), h.out, h.inj⟩
theorem TA.newer {w w' : World} {V : TV} {T : TD} (h : TA w V T) (hu : Upd (fun k => w.heap.size ≤ k) w w') : TA w' V T := h.upd hu (fun s b hb hle => by have := h.lt hb; omega)
/-- What has become of a tree. -/
def Grown (w : World) (V V' : TV) : Prop := V'.bT = V.bT ∧ ∀ s b, V'.own s = some b → (∃ t, V.own t = some b) ∨ w.heap.size ≤ b
def TPost (w : World) (V : TV) (T' : TD) (w' : World) : Prop := ∃ V', TA w' V' T' ∧ Upd (fun b => ∃ s, V.own s = some b) w w' ∧ Grown w V V'
theorem TPost.refl {w : World} {V : TV} {T : TD} (h : TA w V T) : TPost w V T w := ⟨V, h, Upd.refl _ _, rfl, fun s b hb => .inl ⟨s, hb⟩⟩
theorem TPost.then {w w1 w2 : World} {V V1 : TV} {T2 : TD} (hu : Upd (fun b => ∃ s, V.own s = some b) w w1) (hg : Grown w V V1) (h : TPost w1 V1 T2 w2) : TPost w V T2 w2 := by
  obtain ⟨V2, a1, a2, a3, a4⟩ := h
  refine ⟨V2, a1, hu.then a2 (fun i hi ⟨s, hs⟩ => ?_), a3.trans hg.1, fun s b hb => ?_⟩
  · rcases hg.2 s i hs with ⟨t, ht⟩ | hle
    · exact ⟨t, ht⟩
    · omega
  · rcases a4 s b hb with ⟨t, ht⟩ | hle
    · exact hg.2 t b ht
    · right; have := hu.size; omega
def TV.set (V : TV) (k : Nat) (C' : Array Value) (l' k' : Value) : TV := { V with C := C', lv := fun j => if j = k then l' else V.lv j, kv := fun j => if j = k then k' else V.kv j }
theorem TV.set_own (V : TV) (k : Nat) (C' : Array Value) (l' k' : Value) (s : Slot) : (V.set k C' l' k').own s = if s = .L k then l'.ownBlock else if s = .K k then k'.ownBlock else V.own s := by
  cases s with
  | T => rfl
  | N => rfl
  | F => rfl
  | L j =>
    by_cases h : j = k
    · subst h; rw [if_pos rfl]; show (if j = j then l' else V.lv j).ownBlock = _; rw [if_pos rfl]
    · rw [if_neg (fun e => h (by injection e)), if_neg (by simp)]; show (if j = k then l' else V.lv j).ownBlock = _; rw [if_neg h]; rfl
  | K j =>
    by_cases h : j = k
    · subst h; rw [if_neg (by simp), if_pos rfl]; show (if j = j then k' else V.kv j).ownBlock = _; rw [if_pos rfl]
    · rw [if_neg (by simp), if_neg (fun e => h (by injection e))]; show (if j = k then k' else V.kv j).ownBlock = _; rw [if_neg h]; rfl
theorem get_put (T : TD) {k : Nat} (x : ND) (hk : k < T.nodes.length) (j : Nat) : (T.put k x).get j = if j = k then x else T.get j := by
  by_cases h : j = k
  · subst h; rw [if_pos rfl, get_of (put_self x hk)]
  · rw [if_neg h, get_same (put_other T x (fun e => h e.symm))]
/-- A node has turned; its rows are its own, or nobody's. -/
theorem TA.swap {w w' : World} {V : TV} {T : TD} (h : TA w V T) {k : Nat} (hk : k < T.nodes.length) (x : ND) {C' : Array Value} {l' k' : Value} (hu : Upd (fun b => b = V.gN ∨ V.own (.L k) = some b ∨ V.own (.K k) = some b) w w')
    (hr : w'.heap[V.gN]? = some (.cells C' 61 (0, 0))) (hs : C'.size = V.C.size) (hc : ∀ j, j ≠ k → C'[j * 3]? = V.C[j * 3]? ∧ C'[j * 3 + 1]? = V.C[j * 3 + 1]? ∧ C'[j * 3 + 2]? = V.C[j * 3 + 2]?)
    (c0 : C'[k * 3]? = some l') (c1 : C'[k * 3 + 1]? = some k') (c2 : C'[k * 3 + 2]? = some (.int .i64 (x.count : Int)))
    (hl : Row w' 9 l' (strsC x.lines)) (hkd : Row w' 3 k' (natsC x.kids)) (nl : ∀ b, l'.ownBlock = some b → V.own (.L k) = some b ∨ ∀ s, V.own s ≠ some b) (nk : ∀ b, k'.ownBlock = some b → V.own (.K k) = some b ∨ ∀ s, V.own s ≠ some b)
    (nlk : ∀ b, l'.ownBlock = some b → k'.ownBlock = some b → False) : TA w' (V.set k C' l' k') (T.put k x) := by
  have hnT : ∀ s b, V.own s = some b → s ≠ .N → s ≠ .L k → s ≠ .K k → ¬ (b = V.gN ∨ V.own (.L k) = some b ∨ V.own (.K k) = some b) := fun s b hb h1 h2 h3 hor => by
    rcases hor with e | e | e
    · exact h1 (h.inj s .N b hb (by rw [e]; rfl))
    · exact h2 (h.inj s (.L k) b hb e)
    · exact h3 (h.inj s (.K k) b hb e)
  have hlen : (T.put k x).nodes.length = T.nodes.length := put_len T k x
  refine ⟨?_, hr, by show C'.size = V.cN * 3; rw [hs]; exact h.siz, by rw [hlen]; exact h.cap, h.max, fun j hj => ?_, ?_, fun j hj => ?_, fun j hj => ?_, fun j hj => ?_, fun s t b h1 h2 => ?_⟩
  · show w'.heap[V.bT]? = some (.cells #[V.nv (T.put k x).nodes.length, V.fv, _, _] _ _)
    rw [hlen]
    exact hu.heap h.blk (hnT .T _ rfl (by simp) (by simp) (by simp))
  · rw [hlen] at hj
    rw [get_put T x hk j]
    show C'[j * 3]? = some (if j = k then l' else V.lv j) ∧ C'[j * 3 + 1]? = some (if j = k then k' else V.kv j) ∧ C'[j * 3 + 2]? = _
    by_cases e : j = k
    · subst e
      rw [if_pos rfl, if_pos rfl, if_pos rfl]
      exact ⟨c0, c1, c2⟩
    · rw [if_neg e, if_neg e, if_neg e, (hc j e).1, (hc j e).2.1, (hc j e).2.2]
      exact h.cel j hj
  · exact h.fre.upd hu (fun b hb => hnT .F b hb (by simp) (by simp) (by simp))
  · rw [hlen] at hj
    rw [get_put T x hk j]
    show Row w' _ (if j = k then l' else V.lv j) _
    by_cases e : j = k
    · rw [if_pos e, if_pos e]; exact hl
    · rw [if_neg e, if_neg e]
      exact (h.lin j hj).upd hu (fun b hb => hnT (.L j) b hb (by simp) (fun e2 => e (by injection e2)) (by simp))
  · rw [hlen] at hj
    rw [get_put T x hk j]
    show Row w' _ (if j = k then k' else V.kv j) _
    by_cases e : j = k
    · rw [if_pos e, if_pos e]; exact hkd
    · rw [if_neg e, if_neg e]
      exact (h.kid j hj).upd hu (fun b hb => hnT (.K j) b hb (by simp) (by simp) (fun e2 => e (by injection e2)))
  · rw [hlen] at hj
    show (if j = k then l' else V.lv j) = _ ∧ (if j = k then k' else V.kv j) = _
    rw [if_neg (by omega), if_neg (by omega)]
    exact h.out j hj
  · rw [TV.set_own] at h1 h2
    have key : ∀ u, (if u = Slot.L k then l'.ownBlock else if u = Slot.K k then k'.ownBlock else V.own u) = some b → (u = .L k ∧ l'.ownBlock = some b) ∨ (u = .K k ∧ k'.ownBlock = some b) ∨ (u ≠ .L k ∧ u ≠ .K k ∧ V.own u = some b) := fun u hu => by
      by_cases e1 : u = .L k
      · rw [if_pos e1] at hu; exact .inl ⟨e1, hu⟩
      · rw [if_neg e1] at hu
        by_cases e2 : u = .K k
        · rw [if_pos e2] at hu; exact .inr (.inl ⟨e2, hu⟩)
        · rw [if_neg e2] at hu; exact .inr (.inr ⟨e1, e2, hu⟩)
    rcases key s h1 with ⟨rfl, q1⟩ | ⟨rfl, q1⟩ | ⟨n1, n2, q1⟩ <;> rcases key t h2 with ⟨rfl, q2⟩ | ⟨rfl, q2⟩ | ⟨m1, m2, q2⟩
    · rfl
    · exact (nlk b q1 q2).elim
    · rcases nl b q1 with g | g
      · exact absurd (h.inj _ _ b q2 g) m1
      · exact absurd q2 (g _)
    · exact (nlk b q2 q1).elim
    · rfl
    · rcases nk b q1 with g | g
      · exact absurd (h.inj _ _ b q2 g) m2
      · exact absurd q2 (g _)
    · rcases nl b q2 with g | g
      · exact absurd (h.inj _ _ b q1 g) n1
      · exact absurd q1 (g _)
    · rcases nk b q2 with g | g
      · exact absurd (h.inj _ _ b q1 g) n2
      · exact absurd q1 (g _)
    · exact h.inj s t b q1 q2
/-- A node has turned. -/
theorem TA.turn {w w' : World} {V : TV} {T : TD} (h : TA w V T) {k : Nat} (hk : k < T.nodes.length) (x : ND) {C' : Array Value} {l' k' : Value} (hu : Upd (fun b => b = V.gN ∨ V.own (.L k) = some b ∨ V.own (.K k) = some b) w w')
    (hr : w'.heap[V.gN]? = some (.cells C' 61 (0, 0))) (hs : C'.size = V.C.size) (hc : ∀ j, j ≠ k → C'[j * 3]? = V.C[j * 3]? ∧ C'[j * 3 + 1]? = V.C[j * 3 + 1]? ∧ C'[j * 3 + 2]? = V.C[j * 3 + 2]?)
    (c0 : C'[k * 3]? = some l') (c1 : C'[k * 3 + 1]? = some k') (c2 : C'[k * 3 + 2]? = some (.int .i64 (x.count : Int)))
    (hl : Row w' 9 l' (strsC x.lines)) (hkd : Row w' 3 k' (natsC x.kids)) (nl : ∀ b, l'.ownBlock = some b → V.own (.L k) = some b ∨ w.heap.size ≤ b) (nk : ∀ b, k'.ownBlock = some b → V.own (.K k) = some b ∨ w.heap.size ≤ b)
    (nlk : ∀ b, l'.ownBlock = some b → k'.ownBlock = some b → False) : TA w' (V.set k C' l' k') (T.put k x) ∧ Upd (fun b => ∃ s, V.own s = some b) w w' ∧ Grown w V (V.set k C' l' k') := by
  have new : ∀ b, w.heap.size ≤ b → ∀ s, V.own s ≠ some b := fun b hb s hs => by have := h.lt hs; omega
  refine ⟨h.swap hk x hu hr hs hc c0 c1 c2 hl hkd (fun b hb => (nl b hb).imp id (new b)) (fun b hb => (nk b hb).imp id (new b)) nlk, hu.mono (fun b _ hb => ?_), rfl, fun s b hb => ?_⟩
  · rcases hb with e | e | e
    · exact ⟨.N, by rw [e]; rfl⟩
    · exact ⟨_, e⟩
    · exact ⟨_, e⟩
  · rw [TV.set_own] at hb
    by_cases e1 : s = .L k
    · rw [if_pos e1] at hb
      rcases nl b hb with g | g
      · exact .inl ⟨_, g⟩
      · exact .inr g
    · rw [if_neg e1] at hb
      by_cases e2 : s = .K k
      · rw [if_pos e2] at hb
        rcases nk b hb with g | g
        · exact .inl ⟨_, g⟩
        · exact .inr g
      · rw [if_neg e2] at hb
        exact .inl ⟨_, hb⟩
theorem TA.count {w w' : World} {V : TV} {T : TD} (h : TA w V T) {k : Nat} (hk : k < T.nodes.length) (c : Nat) (hu : Upd (fun b => b = V.gN) w w') (hr : w'.heap[V.gN]? = some (.cells (V.C.setIfInBounds (k * 3 + 2) (.int .i64 (c : Int))) 61 (0, 0))) :
    TA w' { V with C := V.C.setIfInBounds (k * 3 + 2) (.int .i64 (c : Int)) } (T.put k { T.get k with count := c }) := by
  have hlen : (T.put k { T.get k with count := c }).nodes.length = T.nodes.length := put_len T k _
  have hn : ∀ s b, V.own s = some b → s ≠ .N → ¬ b = V.gN := fun s b hb h1 e => h1 (h.inj s .N b hb (by rw [e]; rfl))
  have hsz := h.siz
  have hcap := h.cap
  refine ⟨?_, hr, by simp; exact hsz, by rw [hlen]; exact hcap, h.max, fun j hj => ?_, h.fre.upd hu (fun b hb => hn .F b hb (by simp)), fun j hj => ?_, fun j hj => ?_, fun j hj => h.out j (by rw [hlen] at hj; exact hj), h.inj⟩
  · show w'.heap[V.bT]? = some (.cells #[V.nv (T.put k _).nodes.length, V.fv, _, _] _ _)
    rw [hlen]
    exact hu.heap h.blk (hn .T _ rfl (by simp))
  · rw [hlen] at hj
    rw [get_put T _ hk j]
    obtain ⟨c0, c1, c2⟩ := h.cel j hj
    refine ⟨?_, ?_, ?_⟩
    · show (V.C.setIfInBounds (k * 3 + 2) (.int .i64 (c : Int)))[j * 3]? = some (V.lv j)
      rw [Array.getElem?_setIfInBounds_ne (by omega)]; exact c0
    · show (V.C.setIfInBounds (k * 3 + 2) (.int .i64 (c : Int)))[j * 3 + 1]? = some (V.kv j)
      rw [Array.getElem?_setIfInBounds_ne (by omega)]; exact c1
    · show (V.C.setIfInBounds (k * 3 + 2) (.int .i64 (c : Int)))[j * 3 + 2]? = _
      by_cases e : j = k
      · subst e
        rw [if_pos rfl, Array.getElem?_setIfInBounds_self_of_lt (by omega)]
      · rw [if_neg e, Array.getElem?_setIfInBounds_ne (by omega)]; exact c2
  · rw [hlen] at hj
    rw [get_put T _ hk j]
    have : Row w' 9 (V.lv j) (strsC (T.get j).lines) := (h.lin j hj).upd hu (fun b hb => hn (.L j) b hb (by simp))
    by_cases e : j = k
    · subst e; rw [if_pos rfl]; exact this
    · rw [if_neg e]; exact this
  · rw [hlen] at hj
    rw [get_put T _ hk j]
    have : Row w' 3 (V.kv j) (natsC (T.get j).kids) := (h.kid j hj).upd hu (fun b hb => hn (.K j) b hb (by simp))
    by_cases e : j = k
    · subst e; rw [if_pos rfl]; exact this
    · rw [if_neg e]; exact this
/-- The tree's own block has turned. -/
theorem TA.head {w w' : World} {V : TV} {T : TD} (h : TA w V T) (fv' : Value) (fr : List Nat) (rt : Nat) (by_ : Int) (hu : Upd (fun b => b = V.bT ∨ V.own .F = some b) w w')
    (hb : w'.heap[V.bT]? = some (.cells #[V.nv T.nodes.length, fv', .int .i64 (rt : Int), .int .i64 by_] 57 (0, 0))) (hf : Row w' 3 fv' (natsC fr)) (hn : ∀ b, fv'.ownBlock = some b → V.own .F = some b ∨ w.heap.size ≤ b) :
    TA w' { V with fv := fv' } ⟨T.nodes, fr, rt, by_⟩ := by
  have hx : ∀ s b, V.own s = some b → s ≠ .T → s ≠ .F → ¬ (b = V.bT ∨ V.own .F = some b) := fun s b hb h1 h2 hor => by
    rcases hor with e | e
    · exact h1 (h.inj s .T b hb (by rw [e]; rfl))
    · exact h2 (h.inj s .F b hb e)
  refine ⟨hb, hu.heap h.row (hx .N _ rfl (by simp) (by simp)), h.siz, h.cap, h.max, h.cel, hf, fun j hj => (h.lin j hj).upd hu (fun b hb => hx (.L j) b hb (by simp) (by simp)), fun j hj => (h.kid j hj).upd hu (fun b hb => hx (.K j) b hb (by simp) (by simp)), h.out, fun s t b h1 h2 => ?_⟩
  have key : ∀ u, TV.own { V with fv := fv' } u = some b → (u = .F ∧ fv'.ownBlock = some b) ∨ (u ≠ .F ∧ V.own u = some b) := fun u hu => by
    cases u with
    | F => exact .inl ⟨rfl, hu⟩
    | T => exact .inr ⟨by simp, hu⟩
    | N => exact .inr ⟨by simp, hu⟩
    | L j => exact .inr ⟨by simp, hu⟩
    | K j => exact .inr ⟨by simp, hu⟩
  have lt2 : ∀ s, V.own s = some b → ¬ w.heap.size ≤ b := fun s hs => by have := h.lt hs; omega
  rcases key s h1 with ⟨rfl, q1⟩ | ⟨n1, q1⟩ <;> rcases key t h2 with ⟨rfl, q2⟩ | ⟨n2, q2⟩
  · rfl
  · rcases hn b q1 with g | g
    · exact absurd (h.inj _ _ b q2 g) n2
    · exact absurd g (lt2 _ q2)
  · rcases hn b q2 with g | g
    · exact absurd (h.inj _ _ b q1 g) n1
    · exact absurd g (lt2 _ q1)
  · exact h.inj s t b q1 q2
theorem head_own {V : TV} {fv' : Value} {s : Slot} {b : Nat} (h : TV.own { V with fv := fv' } s = some b) : V.own s = some b ∨ fv'.ownBlock = some b := by
  cases s with
  | F => exact .inr h
  | T => exact .inl h
  | N => exact .inl h
  | L j => exact .inl h
  | K j => exact .inl h
/-- One node more. -/
theorem TA.push {w w' : World} {V : TV} {T : TD} (h : TA w V T) (x : ND) (l k' : Value) (g c' : Nat) (C' : Array Value) (hu : Upd (fun b => b = V.bT ∨ b = V.gN) w w')
    (hb : w'.heap[V.bT]? = some (.cells #[.slice (some ⟨g, 0, none⟩) (T.nodes.length + 1) c', V.fv, .int .i64 (T.root : Int), .int .i64 T.bytes] 57 (0, 0))) (hg : w'.heap[g]? = some (.cells C' 61 (0, 0))) (hs : C'.size = c' * 3) (hc : T.nodes.length + 1 ≤ c') (hm : c' ≤ maxLen)
    (ht : C'.toList.take ((T.nodes.length + 1) * 3) = V.C.toList.take (T.nodes.length * 3) ++ [l, k', .int .i64 (x.count : Int)]) (gn : g = V.gN ∨ w.heap.size ≤ g)
    (hl : Row w' 9 l (strsC x.lines)) (hk : Row w' 3 k' (natsC x.kids)) (dl : ∀ b, l.ownBlock = some b → b ≠ g ∧ ∀ s, V.own s ≠ some b) (dk : ∀ b, k'.ownBlock = some b → b ≠ g ∧ ∀ s, V.own s ≠ some b) (dlk : ∀ b, l.ownBlock = some b → k'.ownBlock = some b → False) :
    TA w' { V with gN := g, cN := c', C := C', lv := fun j => if j = T.nodes.length then l else V.lv j, kv := fun j => if j = T.nodes.length then k' else V.kv j } { T with nodes := T.nodes ++ [x] } := by
  have hx : ∀ s b, V.own s = some b → s ≠ .T → s ≠ .N → ¬ (b = V.bT ∨ b = V.gN) := fun s b hb h1 h2 hor => by
    rcases hor with e | e
    · exact h1 (h.inj s .T b hb (by rw [e]; rfl))
    · exact h2 (h.inj s .N b hb (by rw [e]; rfl))
  have hsz := h.siz
  have hcap := h.cap
  have hgl : ∀ j, j < T.nodes.length → (⟨T.nodes ++ [x], T.free, T.root, T.bytes⟩ : TD).get j = T.get j := fun j hj => get_same (List.getElem?_append_left hj)
  have hgn : (⟨T.nodes ++ [x], T.free, T.root, T.bytes⟩ : TD).get T.nodes.length = x := get_of (by show (T.nodes ++ [x])[T.nodes.length]? = _; simp)
  have hlen : (⟨T.nodes ++ [x], T.free, T.root, T.bytes⟩ : TD).nodes.length = T.nodes.length + 1 := by simp
  have hcell : ∀ i, i < T.nodes.length * 3 → C'[i]? = V.C[i]? := fun i hi => by
    have e1 : C'[i]? = (C'.toList.take ((T.nodes.length + 1) * 3))[i]? := by rw [List.getElem?_take_of_lt (by omega)]; simp
    rw [e1, ht, List.getElem?_append_left (by simp; omega), List.getElem?_take_of_lt hi]
    simp
  have hlast : ∀ i, i < 3 → C'[T.nodes.length * 3 + i]? = [l, k', Value.int .i64 (x.count : Int)][i]? := fun i hi => by
    have e1 : C'[T.nodes.length * 3 + i]? = (C'.toList.take ((T.nodes.length + 1) * 3))[T.nodes.length * 3 + i]? := by rw [List.getElem?_take_of_lt (by omega)]; simp
    have e2 : (V.C.toList.take (T.nodes.length * 3)).length = T.nodes.length * 3 := by simp; omega
    rw [e1, ht, List.getElem?_append_right (by omega), e2]
    congr 1
    omega
  refine ⟨?_, hg, hs, by rw [hlen]; exact hc, hm, fun j hj => ?_, h.fre.upd hu (fun b hb => hx .F b hb (by simp) (by simp)), fun j hj => ?_, fun j hj => ?_, fun j hj => ?_, fun s t b h1 h2 => ?_⟩
  · show w'.heap[V.bT]? = some (.cells #[.slice (some ⟨g, 0, none⟩) (T.nodes ++ [x]).length c', V.fv, _, _] _ _)
    rw [hlen]
    exact hb
  · rw [hlen] at hj
    show C'[j * 3]? = some (if j = T.nodes.length then l else V.lv j) ∧ C'[j * 3 + 1]? = some (if j = T.nodes.length then k' else V.kv j) ∧ C'[j * 3 + 2]? = _
    by_cases e : j = T.nodes.length
    · subst e
      rw [if_pos rfl, if_pos rfl, hgn]
      exact ⟨hlast 0 (by decide), hlast 1 (by decide), hlast 2 (by decide)⟩
    · rw [if_neg e, if_neg e, hgl j (by omega), hcell _ (by omega), hcell _ (by omega), hcell _ (by omega)]
      exact h.cel j (by omega)
  · rw [hlen] at hj
    show Row w' _ (if j = T.nodes.length then l else V.lv j) _
    by_cases e : j = T.nodes.length
    · subst e; rw [if_pos rfl, hgn]; exact hl
    · rw [if_neg e, hgl j (by omega)]
      exact (h.lin j (by omega)).upd hu (fun b hb => hx (.L j) b hb (by simp) (by simp))
  · rw [hlen] at hj
    show Row w' _ (if j = T.nodes.length then k' else V.kv j) _
    by_cases e : j = T.nodes.length
    · subst e; rw [if_pos rfl, hgn]; exact hk
    · rw [if_neg e, hgl j (by omega)]
      exact (h.kid j (by omega)).upd hu (fun b hb => hx (.K j) b hb (by simp) (by simp))
  · rw [hlen] at hj
    show (if j = T.nodes.length then l else V.lv j) = _ ∧ (if j = T.nodes.length then k' else V.kv j) = _
    rw [if_neg (by omega), if_neg (by omega)]
    exact h.out j (by omega)
  · obtain ⟨V2, hV2⟩ : ∃ V2 : TV, { V with gN := g, cN := c', C := C', lv := fun j => if j = T.nodes.length then l else V.lv j, kv := fun j => if j = T.nodes.length then k' else V.kv j } = V2 := ⟨_, rfl⟩
    rw [hV2] at h1 h2
    have key : ∀ u, V2.own u = some b → (u = .N ∧ b = g) ∨ (u = .L T.nodes.length ∧ l.ownBlock = some b) ∨ (u = .K T.nodes.length ∧ k'.ownBlock = some b) ∨ (u ≠ .N ∧ u ≠ .L T.nodes.length ∧ u ≠ .K T.nodes.length ∧ V.own u = some b) := fun u hu => by
      rw [← hV2] at hu
      cases u with
      | T => exact .inr (.inr (.inr ⟨by simp, by simp, by simp, hu⟩))
      | F => exact .inr (.inr (.inr ⟨by simp, by simp, by simp, hu⟩))
      | N => injection hu with hu; exact .inl ⟨rfl, hu.symm⟩
      | L j =>
        have hu2 : (if j = T.nodes.length then l else V.lv j).ownBlock = some b := hu
        by_cases e : j = T.nodes.length
        · rw [if_pos e] at hu2; exact .inr (.inl ⟨by rw [e], hu2⟩)
        · rw [if_neg e] at hu2; exact .inr (.inr (.inr ⟨by simp, fun e2 => e (by injection e2), by simp, hu2⟩))
      | K j =>
        have hu2 : (if j = T.nodes.length then k' else V.kv j).ownBlock = some b := hu
        by_cases e : j = T.nodes.length
        · rw [if_pos e] at hu2; exact .inr (.inr (.inl ⟨by rw [e], hu2⟩))
        · rw [if_neg e] at hu2; exact .inr (.inr (.inr ⟨by simp, by simp, fun e2 => e (by injection e2), hu2⟩))
    have hgo : ∀ u, u ≠ .N → V.own u = some b → b = g → False := fun u hu hb e => by
      rcases gn with e2 | e2
      · exact hu (h.inj u .N b hb (by rw [e, e2]; rfl))
      · have := h.lt hb; omega
    rcases key s h1 with ⟨rfl, q1⟩ | ⟨rfl, q1⟩ | ⟨rfl, q1⟩ | ⟨n0, n1, n2, q1⟩ <;> rcases key t h2 with ⟨rfl, q2⟩ | ⟨rfl, q2⟩ | ⟨rfl, q2⟩ | ⟨m0, m1, m2, q2⟩
    · rfl
    · exact ((dl b q2).1 q1).elim
    · exact ((dk b q2).1 q1).elim
    · exact (hgo t m0 q2 q1).elim
    · exact ((dl b q1).1 q2).elim
    · rfl
    · exact (dlk b q1 q2).elim
    · exact ((dl b q1).2 t q2).elim
    · exact ((dk b q1).1 q2).elim
    · exact (dlk b q2 q1).elim
    · rfl
    · exact ((dk b q1).2 t q2).elim
    · exact (hgo s n0 q1 q2).elim
    · exact ((dl b q2).2 s q1).elim
    · exact ((dk b q2).2 s q1).elim
    · exact h.inj s t b q1 q2
theorem TPost.cells {w w' : World} {V : TV} {T' : TD} (C' : Array Value) (h : TA w' { V with C := C' } T') (hu : Upd (fun b => b = V.gN) w w') : TPost w V T' w' :=
  ⟨_, h, hu.mono (fun b _ e => ⟨.N, by rw [e]; rfl⟩), rfl, fun s b hb => .inl ⟨s, hb⟩⟩
end Go.Proofs.Ytmklapbecdhnmaa
namespace Go.Proofs.Ytmklapbecdhnmaa
open Go.RowKit
section
variable {P : Program} {ops : Array Oper} {Q : Exit → Act → World → Prop} {md : Region.Mode} {S : World → Prop} {G : Nat → Bool}
/-- Whatever order is picked from here on; behind each operation of G the condition S holds. -/
def wpAnyG (P : Program) (md : Region.Mode) (ops : Array Oper) (Q : Exit → Act → World → Prop) (S : World → Prop) (G : Nat → Bool) : Nat → Array Bool → Act → World → Prop
  | 0, listed, a, w => Region.ready md ops listed = [] ∧ Q .normal a w
  | fuel + 1, listed, a, w =>
    (Region.ready md ops listed = [] → Q .normal a w) ∧
    ∀ i ∈ Region.ready md ops listed, wpOp P ops Q i (fun a' w' => (G i = true → S w') ∧ wpAnyG P md ops Q S G fuel (listed.setIfInBounds i true) a' w') a w
theorem wpAny_of_G : ∀ (fuel : Nat) (listed : Array Bool) (a : Act) (w : World), wpAnyG P md ops Q S G fuel listed a w → wpAny P md ops Q fuel listed a w
  | 0, _, _, _, h => h
  | fuel + 1, _, _, _, h => ⟨h.1, fun i hi => wpOp_mono (fun a' w' h' => wpAny_of_G fuel _ a' w' h'.2) (h.2 i hi)⟩
/-- Those that come behind i, through however many others. -/
def reachB (md : Region.Mode) (ops : Array Oper) (i : Nat) : List Nat :=
  (List.range ops.size).foldl (fun B j => match ops[j]? with
    | some oj => if oj.after.any (fun e => Region.binds md e && (e.on == i || B.contains e.on)) then j :: B else B
    | none => B) []
def closedB (md : Region.Mode) (ops : Array Oper) (listed : Array Bool) (i : Nat) (B : List Nat) : Bool :=
  B.all fun j => !listed.getD j true && match ops[j]? with
    | some oj => oj.after.any (fun e => Region.binds md e && (e.on == i || B.contains e.on))
    | none => false
/-- Nobody who could come before i touches its temporaries, and each of them is of G. -/
def freeG (md : Region.Mode) (ops : Array Oper) (G : Nat → Bool) (listed : Array Bool) (i : Nat) : Bool :=
  closedB md ops listed i (reachB md ops i) && match ops[i]? with
  | none => false
  | some oi => (List.range ops.size).all fun j => j == i || listed.getD j true || (reachB md ops i).contains j || match ops[j]? with
      | some oj => oi.apart ops oj && G j
      | none => true
theorem freeG_spec {i j : Nat} {oi : Oper} {listed : Array Bool} (hi : ops[i]? = some oi) (h : freeG md ops G listed i = true) {oj : Oper} (hj : ops[j]? = some oj) (hne : j ≠ i) (hun : listed.getD j true = false)
    (hno : j ∉ reachB md ops i) : oi.apart ops oj = true ∧ G j = true := by
  simp only [freeG, hi, Bool.and_eq_true, List.all_eq_true, List.mem_range] at h
  have h1 := h.2 j (Array.getElem?_eq_some_iff.1 hj).1
  simpa [hj, hne, hun, hno] using h1
theorem wpAnyG_first {i : Nat} {oi : Oper} {v : Value} (B : List Nat) (hi : ops[i]? = some oi) (hsel : ∀ (j : Nat) (o : Oper) cs b, ops[j]? = some o → o.op ≠ .select cs b)
    (hQ : ∀ c a w, Q (.panic c) (a.put oi.dst v) w → Q (.panic c) a w) :
    ∀ (fuel : Nat) (listed : Array Bool) (a : Act) (w : World),
      closedB md ops listed i B = true →
      (∀ j oj, ops[j]? = some oj → j ≠ i → listed.getD j true = false → j ∉ B → oi.apart ops oj = true ∧ G j = true) →
      i ∈ Region.ready md ops listed → YieldsIf P ops S oi v a → S w →
      wpAnyG P md ops Q S G fuel (listed.setIfInBounds i true) (a.put oi.dst v) w → wpAnyG P md ops Q S G (fuel + 1) listed a w := by
  intro fuel
  induction fuel with
  | zero =>
    intro listed a w _ _ hr hy hS H
    refine ⟨fun h => (by rw [h] at hr; cases hr), fun j hj => ?_⟩
    by_cases hji : j = i
    · subst hji; exact hy.wpOp hi hS ⟨fun _ => hS, H⟩
    · have := ready_mono hj hji
      rw [H.1] at this
      cases this
  | succ fuel ih =>
    intro listed a w hcl hfree hr hy hS H
    refine ⟨fun h => (by rw [h] at hr; cases hr), fun j hj => ?_⟩
    by_cases hji : j = i
    · subst hji; exact hy.wpOp hi hS ⟨fun _ => hS, H⟩
    · have h1 := H.2 j (ready_mono hj hji)
      obtain ⟨hjun, oj, hoj, hall⟩ := mem_ready.1 hj
      have hiun := (mem_ready.1 hr).1
      have hcl' := hcl
      simp only [closedB, List.all_eq_true, Bool.and_eq_true, Bool.not_eq_true'] at hcl'
      have hnot : j ∉ B := fun hjB => by
        have h2 := (hcl' j hjB).2
        simp only [hoj] at h2
        obtain ⟨e, he, hb⟩ := Array.any_eq_true'.1 h2
        simp only [Bool.and_eq_true, Bool.or_eq_true, beq_iff_eq, List.contains_iff_mem] at hb
        have h3 := hall e he hb.1
        have h4 : listed.getD e.on true = false := by
          rcases hb.2 with h | h
          · rw [h]; exact hiun
          · exact (hcl' e.on h).1
        rcases Nat.lt_or_ge e.on listed.size with h' | h'
        · simp [h'] at h3 h4; rw [h4] at h3; cases h3
        · simp [Array.getElem?_eq_none h'] at h3
      have hap := hfree j oj hoj hji hjun hnot
      have h2 := wpOp_putIf hoj hap.1 (fun cs b => hsel i oi cs b hi) (fun cs b => hsel j oj cs b hoj) hQ hy h1
      refine wpOp_mono (fun a' w' h3 => ?_) h2
      refine ⟨h3.2.1, ih (listed.setIfInBounds j true) a' w' ?_ ?_ (ready_mono hr (Ne.symm hji)) h3.1 (h3.2.1 hap.2) ?_⟩
      · simp only [closedB, List.all_eq_true, Bool.and_eq_true, Bool.not_eq_true']
        intro k hk
        refine ⟨?_, (hcl' k hk).2⟩
        have hjk : j ≠ k := fun e => hnot (e ▸ hk)
        rw [getD_set_ne true hjk]; exact (hcl' k hk).1
      · intro k ok hk hki hun hno
        refine hfree k ok hk hki ?_ hno
        by_cases hjk : j = k
        · subst hjk; exact hjun
        · rw [getD_set_ne true hjk] at hun; exact hun
      · rw [Array.setIfInBounds_comm _ _ hji]
        exact h3.2.2
/-- The order: (i, true) only reads and may be taken now; (i, false) is the one that comes up. -/
def seqB (md : Region.Mode) (ops : Array Oper) (G : Nat → Bool) : List (Nat × Bool) → Array Bool → Bool
  | [], listed => (Region.ready md ops listed).isEmpty
  | (i, true) :: l, listed => (Region.ready md ops listed).contains i && freeG md ops G listed i && seqB md ops G l (listed.setIfInBounds i true)
  | (i, false) :: l, listed => (Region.ready md ops listed == [i]) && seqB md ops G l (listed.setIfInBounds i true)
/-- The walk in that order. -/
def wpSeq (P : Program) (ops : Array Oper) (Q : Exit → Act → World → Prop) (S : World → Prop) (G : Nat → Bool) : List (Nat × Bool) → Act → World → Prop
  | [], a, w => Q .normal a w
  | (i, true) :: l, a, w => ∃ o v, ops[i]? = some o ∧ YieldsIf P ops S o v a ∧ S w ∧ wpSeq P ops Q S G l (a.put o.dst v) w
  | (i, false) :: l, a, w => wpOp P ops Q i (fun a' w' => (G i = true → S w') ∧ wpSeq P ops Q S G l a' w') a w
theorem wpAnyG_of_seq (hsel : Region.noSelect ops = true) (hQ : ∀ c a d v w, Q (.panic c) (Act.put a d v) w → Q (.panic c) a w) :
    ∀ (l : List (Nat × Bool)) (listed : Array Bool) (a : Act) (w : World), seqB md ops G l listed = true → wpSeq P ops Q S G l a w → wpAnyG P md ops Q S G l.length listed a w
  | [], listed, a, w, hB, h => ⟨by simpa [seqB] using hB, h⟩
  | (i, true) :: l, listed, a, w, hB, h => by
    simp only [seqB, Bool.and_eq_true] at hB
    obtain ⟨⟨hr, hf⟩, hB'⟩ := hB
    obtain ⟨o, v, ho, hy, hS, hk⟩ := h
    have hf' := hf
    simp only [freeG, Bool.and_eq_true] at hf'
    exact wpAnyG_first (reachB md ops i) ho (Region.noSelect_spec hsel) (fun c a w h => hQ c a _ _ w h) l.length listed a w
      hf'.1 (fun j oj hj hne hun hno => freeG_spec ho hf hj hne hun hno) (by simpa using hr) hy hS
      (wpAnyG_of_seq hsel hQ l _ _ _ hB' hk)
  | (i, false) :: l, listed, a, w, hB, h => by
    simp only [seqB, Bool.and_eq_true, beq_iff_eq] at hB
    obtain ⟨hr, hB'⟩ := hB
    refine ⟨fun h0 => (by rw [hr] at h0; cases h0), fun j hj => ?_⟩
    rw [hr] at hj
    obtain rfl : j = i := by simpa using hj
    exact wpOp_mono (fun a' w' h' => ⟨h'.1, wpAnyG_of_seq hsel hQ l _ _ _ hB' h'.2⟩) h
theorem wp_region_seq {id : Nat} {l : List Oper} {a : Act} {w : World} (S : World → Prop) (G : Nat → Bool) (s : List (Nat × Bool)) (hm : P.follows .mixedOrders = true)
    (hB : (Region.noSelect l.toArray && s.length == l.toArray.size && seqB .any l.toArray G s (Array.replicate l.toArray.size false)) = true) (hQ : ∀ c a d v w, Q (.panic c) (Act.put a d v) w → Q (.panic c) a w)
    (h : wpSeq P l.toArray Q S G s a w.drew) : (Code.region id l.toArray true).wp P Q a w := by
  simp only [Bool.and_eq_true, beq_iff_eq] at hB
  obtain ⟨⟨h1, h2⟩, h3⟩ := hB
  refine wp_region_any hm (wpAny_of_G (S := S) (G := G) _ _ _ _ ?_)
  have h4 := wpAnyG_of_seq h1 hQ s _ _ _ h3 h
  rw [h2] at h4
  exact h4
theorem seq_val {i : Nat} {s : List (Nat × Bool)} {a : Act} {w : World} {o : Oper} {v : Value} (ho : ops[i]? = some o) (hw : Region.wanted o (yielded ops a.tmps) = true) (hr : ∀ w', S w' → (execOp a.eval o).run P w' = .ok (.value v) w')
    (hS : S w) (hk : wpSeq P ops Q S G s (a.put o.dst v) w) : wpSeq P ops Q S G ((i, true) :: s) a w := ⟨o, v, ho, .inl ⟨hw, hr⟩, hS, hk⟩
theorem seq_skip {i : Nat} {s : List (Nat × Bool)} {a : Act} {w : World} {o : Oper} (ho : ops[i]? = some o) (hw : Region.wanted o (yielded ops a.tmps) = false)
    (hS : S w) (hk : wpSeq P ops Q S G s (a.put o.dst undef) w) : wpSeq P ops Q S G ((i, true) :: s) a w := ⟨o, undef, ho, .inr ⟨hw, rfl⟩, hS, hk⟩
theorem seq_loud {i : Nat} {s : List (Nat × Bool)} {a : Act} {w : World} {o : Oper} (ho : ops[i]? = some o)
    (h : ∀ K : Act → World → Prop, (∀ a w, (G i = true → S w) → wpSeq P ops Q S G s a w → K a w) → if Region.wanted o (yielded ops a.tmps) = true then Oper.wp P o a w K Q else K (a.put o.dst undef) w) :
    wpSeq P ops Q S G ((i, false) :: s) a w := by
  have := h (fun a' w' => (G i = true → S w') ∧ wpSeq P ops Q S G s a' w') (fun a' w' h1 h2 => ⟨h1, h2⟩)
  show wpOp P ops Q i _ a w
  unfold wpOp
  simp only [ho]
  split
  · rename_i hw; rw [if_pos hw] at this; exact .inl this
  · rename_i hw; rw [if_neg hw] at this; exact this
theorem seq_call {i : Nat} {s : List (Nat × Bool)} {a : Act} {w : World} {o : Oper} {f : FuncId} {args : Array Value} (C : Value → World → Prop) (ho : ops[i]? = some o) (hw : Region.wanted o (yielded ops a.tmps) = true)
    (hr : (execOp a.eval o).run P w = .ok (.enter f args) w) (hc : Calls P f args w fun e w' => ∃ v, e = .returned v ∧ C v w') (hk : ∀ v w', C v w' → (G i = true → S w') ∧ wpSeq P ops Q S G s (a.put o.dst v) w') :
    wpSeq P ops Q S G ((i, false) :: s) a w := by
  show wpOp P ops Q i _ a w
  unfold wpOp
  simp only [ho]
  rw [if_pos hw]
  refine .inl ?_
  unfold Oper.wp
  rw [hr, Oper.upon_enter]
  refine hc.mono ?_
  rintro e w' ⟨v, rfl, hv⟩
  exact hk v w' hv
theorem ops_drop {i : Nat} {o : Oper} {r : List Oper} (h : ops.toList.drop i = o :: r) : ops[i]? = some o := by
  have := congrArg List.head? h
  rw [List.head?_drop] at this
  simpa using this
theorem seq_val2 {i : Nat} {s : List (Nat × Bool)} {a : Act} {w : World} {o : Oper} {r : List Oper} {v : Value} (ho : ops.toList.drop i = o :: r) (hw : Region.wanted o (yielded ops a.tmps) = true) (hr : ∀ w', S w' → (execOp a.eval o).run P w' = .ok (.value v) w')
    (hS : S w) (hk : wpSeq P ops Q S G s (a.put o.dst v) w) : wpSeq P ops Q S G ((i, true) :: s) a w := seq_val (ops_drop ho) hw hr hS hk
theorem seq_skip2 {i : Nat} {s : List (Nat × Bool)} {a : Act} {w : World} {o : Oper} {r : List Oper} (ho : ops.toList.drop i = o :: r) (hw : Region.wanted o (yielded ops a.tmps) = false)
    (hS : S w) (hk : wpSeq P ops Q S G s (a.put o.dst undef) w) : wpSeq P ops Q S G ((i, true) :: s) a w := seq_skip (ops_drop ho) hw hS hk
theorem seq_loud2 {i : Nat} {s : List (Nat × Bool)} {a : Act} {w : World} {o : Oper} {r : List Oper} (ho : ops.toList.drop i = o :: r)
    (h : ∀ K : Act → World → Prop, (∀ a w, (G i = true → S w) → wpSeq P ops Q S G s a w → K a w) → if Region.wanted o (yielded ops a.tmps) = true then Oper.wp P o a w K Q else K (a.put o.dst undef) w) :
    wpSeq P ops Q S G ((i, false) :: s) a w := seq_loud (ops_drop ho) h
theorem seq_call2 {i : Nat} {s : List (Nat × Bool)} {a : Act} {w : World} {o : Oper} {r : List Oper} {f : FuncId} {args : Array Value} (C : Value → World → Prop) (ho : ops.toList.drop i = o :: r) (hw : Region.wanted o (yielded ops a.tmps) = true)
    (hr : (execOp a.eval o).run P w = .ok (.enter f args) w) (hc : Calls P f args w fun e w' => ∃ v, e = .returned v ∧ C v w') (hk : ∀ v w', C v w' → (G i = true → S w') ∧ wpSeq P ops Q S G s (a.put o.dst v) w') :
    wpSeq P ops Q S G ((i, false) :: s) a w := seq_call C (ops_drop ho) hw hr hc hk
theorem seq_nil {a : Act} {w : World} (h : Q .normal a w) : wpSeq P ops Q S G [] a w := h
end
end Go.Proofs.Ytmklapbecdhnmaa
