/- Lemmas that the law's proof stands on, part 18: Tva, Tvb, Tvc, Tvd. No condition. -/
import Derived.Test.YtmklapbecdhnmaaBaseA0
import Derived.Test.YtmklapbecdhnmaaBaseA17
set_option linter.all false
set_option linter.unusedVariables false
set_option linter.unusedSimpArgs false
namespace Go.Proofs.Ytmklapbecdhnmaa
open Go.RowKit
theorem sizes_le : ∀ (ls : List ByteArray), (∀ s ∈ ls, s.size ≤ 140737488351232) → sizes ls ≤ (ls.length : Int) * 140737488351232
  | [], _ => by simp [sizes]
  | a :: ls, h => by
    have h1 := sizes_le ls (fun s hs => h s (List.mem_cons_of_mem _ hs))
    have h2 := h a List.mem_cons_self
    rw [sizes_cons, List.length_cons]
    omega
/-- A tree at b, in these blocks, has these lines; n bounds what was done with it. -/
def Tr (w : World) (b : Nat) (O : Nat → Prop) (n : Nat) (ls : List ByteArray) : Prop :=
  ∃ V T h, V.bT = b ∧ TA w V T ∧ Inv T h ls ∧ T.load + 12 * ls.length ≤ n ∧ (∀ s ∈ ls, s.size ≤ 140737488351232) ∧ ∀ k, (∃ s, V.own s = some k) ↔ O k
def TrP (w : World) (b : Nat) (O : Nat → Prop) (n : Nat) (ls : List ByteArray) (w' : World) : Prop := ∃ O', Tr w' b O' n ls ∧ Upd O w w' ∧ ∀ k, O' k → O k ∨ w.heap.size ≤ k
theorem Tr.lt {w : World} {b : Nat} {O : Nat → Prop} {n : Nat} {ls : List ByteArray} (h : Tr w b O n ls) {k : Nat} (hk : O k) : k < w.heap.size := by
  obtain ⟨V, T, _, _, ha, _, _, _, ho⟩ := h
  obtain ⟨s, hs⟩ := (ho k).2 hk
  exact ha.lt hs
theorem Tr.own {w : World} {b : Nat} {O : Nat → Prop} {n : Nat} {ls : List ByteArray} (h : Tr w b O n ls) : O b := by
  obtain ⟨V, T, _, hb, _, _, _, _, ho⟩ := h
  exact (ho b).1 ⟨.T, by rw [← hb]; rfl⟩
theorem Tr.few {w : World} {b : Nat} {O : Nat → Prop} {n : Nat} {ls : List ByteArray} (h : Tr w b O n ls) : 12 * ls.length ≤ n := by
  obtain ⟨V, T, _, _, _, _, hl, _⟩ := h
  omega
theorem Tr.short {w : World} {b : Nat} {O : Nat → Prop} {n : Nat} {ls : List ByteArray} (h : Tr w b O n ls) : ∀ s ∈ ls, s.size ≤ 140737488351232 := by
  obtain ⟨V, T, _, _, _, _, _, hs, _⟩ := h
  exact hs
theorem Tr.mono {w : World} {b : Nat} {O : Nat → Prop} {n m : Nat} {ls : List ByteArray} (h : Tr w b O n ls) (hm : n ≤ m) : Tr w b O m ls := by
  obtain ⟨V, T, k, a1, a2, a3, a4, a5⟩ := h
  exact ⟨V, T, k, a1, a2, a3, by omega, a5⟩
theorem Tr.upd {F : Nat → Prop} {w w' : World} {b : Nat} {O : Nat → Prop} {n : Nat} {ls : List ByteArray} (h : Tr w b O n ls) (hu : Upd F w w') (hn : ∀ k, O k → ¬ F k) : Tr w' b O n ls := by
  obtain ⟨V, T, k, a1, a2, a3, a4, a5, a6⟩ := h
  exact ⟨V, T, k, a1, a2.upd hu (fun s c hc => hn c ((a6 c).1 ⟨s, hc⟩)), a3, a4, a5, a6⟩
theorem Tr.newer {w w' : World} {b : Nat} {O : Nat → Prop} {n : Nat} {ls : List ByteArray} (h : Tr w b O n ls) (hu : Upd (fun _ => False) w w') : Tr w' b O n ls := h.upd hu (fun _ _ e => e)
theorem TrP.refl {w : World} {b : Nat} {O : Nat → Prop} {n : Nat} {ls : List ByteArray} (h : Tr w b O n ls) : TrP w b O n ls w := ⟨O, h, Upd.refl _ _, fun _ h => .inl h⟩
theorem TrP.mono {w w' : World} {b : Nat} {O : Nat → Prop} {n m : Nat} {ls : List ByteArray} (h : TrP w b O n ls w') (hm : n ≤ m) : TrP w b O m ls w' := by
  obtain ⟨O', a, b, c⟩ := h
  exact ⟨O', a.mono hm, b, c⟩
theorem TrP.then {w w1 w2 : World} {b : Nat} {O O1 : Nat → Prop} {n : Nat} {ls : List ByteArray} (hu : Upd O w w1) (hg : ∀ k, O1 k → O k ∨ w.heap.size ≤ k) (h : TrP w1 b O1 n ls w2) : TrP w b O n ls w2 := by
  obtain ⟨O2, a1, a2, a3⟩ := h
  refine ⟨O2, a1, hu.then a2 (fun i hi ho => ?_), fun k hk => ?_⟩
  · rcases hg i ho with e | e
    · exact e
    · omega
  · rcases a3 k hk with e | e
    · exact hg k e
    · right; have := hu.size; omega
theorem TrP.of {w w' : World} {V : TV} {T' : TD} {O : Nat → Prop} {h' n : Nat} {ls : List ByteArray} (hO : ∀ k, (∃ s, V.own s = some k) ↔ O k) (hp : TPost w V T' w') (v : Inv T' h' ls) (hl : T'.load + 12 * ls.length ≤ n) (hs : ∀ s ∈ ls, s.size ≤ 140737488351232) : TrP w V.bT O n ls w' := by
  obtain ⟨V', a1, a2, a3, a4⟩ := hp
  refine ⟨fun k => ∃ s, V'.own s = some k, ⟨V', T', h', a3, a1, v, hl, hs, fun k => Iff.rfl⟩, a2.mono (fun k _ e => (hO k).1 e), fun k ⟨s, hk⟩ => ?_⟩
  rcases a4 s k hk with e | e
  · exact .inl ((hO k).1 e)
  · exact .inr e
theorem mem_insL {α : Type} {l : List α} {i : Nat} {x y : α} (h : y ∈ insL l i x) : y ∈ l ∨ y = x := by
  unfold insL at h
  rcases List.mem_append.1 h with h | h
  · exact .inl (List.mem_of_mem_take h)
  · rcases List.mem_cons.1 h with h | h
    · exact .inr h
    · exact .inl (List.mem_of_mem_drop h)
theorem mem_delL {α : Type} {l : List α} {i : Nat} {y : α} (h : y ∈ delL l i) : y ∈ l := by
  unfold delL at h
  rcases List.mem_append.1 h with h | h
  · exact List.mem_of_mem_take h
  · exact List.mem_of_mem_drop h
theorem Insert_tr {w : World} {b : Nat} {O : Nat → Prop} {n : Nat} {ls : List ByteArray} (h : Tr w b O n ls) (hn : n + 24 ≤ 600000) (line : ByteArray) (hl : line.size ≤ 140737488351232) (i : Int) :
    Calls Try.prog 12 #[.pointer (some ⟨b, 0, none⟩), .int .i64 i, .string line] w fun e w' => e = .returned (.bool (decide (0 ≤ i ∧ i ≤ (ls.length : Int)))) ∧ TrP w b O (n + 24) (if 0 ≤ i ∧ i ≤ (ls.length : Int) then insL ls i.toNat line else ls) w' := by
  obtain ⟨V, T, k, rfl, a2, a3, a4, a5, a6⟩ := h
  have h1 := a3.low (by omega)
  have h2 := sizes_le ls a5
  obtain ⟨T', h', c1, c2, c3⟩ := Insert_any line a2 a3 (by omega) (by omega) (by omega) i
  refine c1.mono ?_
  rintro e w1 ⟨rfl, hp⟩
  refine ⟨rfl, TrP.of a6 hp c2 ?_ ?_⟩
  · split
    · have := insL_len ls i.toNat line; omega
    · omega
  · split
    · intro s hs
      rcases mem_insL hs with e | e
      · exact a5 s e
      · rw [e]; exact hl
    · exact a5
theorem Delete_tr {w : World} {b : Nat} {O : Nat → Prop} {n : Nat} {ls : List ByteArray} (h : Tr w b O n ls) (hn : n + 24 ≤ 600000) (i : Int) :
    Calls Try.prog 21 #[.pointer (some ⟨b, 0, none⟩), .int .i64 i] w fun e w' => e = .returned (.bool (decide (0 ≤ i ∧ i < (ls.length : Int)))) ∧ TrP w b O (if 0 ≤ i ∧ i < (ls.length : Int) then n else n + 12) (if 0 ≤ i ∧ i < (ls.length : Int) then delL ls i.toNat else ls) w' := by
  obtain ⟨V, T, k, rfl, a2, a3, a4, a5, a6⟩ := h
  have h1 := a3.low (by omega)
  have h2 := sizes_le ls a5
  obtain ⟨T', h', c1, c2, c3⟩ := Delete_any a2 a3 (by omega) (by omega) (by omega) i
  refine c1.mono ?_
  rintro e w1 ⟨rfl, hp⟩
  refine ⟨rfl, TrP.of a6 hp c2 ?_ ?_⟩
  · split
    · have hd : (delL ls i.toNat).length + 1 = ls.length := by
        unfold delL
        rw [List.length_append, List.length_take, List.length_drop]
        omega
      omega
    · omega
  · split
    · exact fun s hs => a5 s (mem_delL hs)
    · exact a5
theorem Set_tr {w : World} {b : Nat} {O : Nat → Prop} {n : Nat} {ls : List ByteArray} (h : Tr w b O n ls) (hn : n + 24 ≤ 600000) (line : ByteArray) (hl : line.size ≤ 140737488351232) (i : Int) :
    Calls Try.prog 20 #[.pointer (some ⟨b, 0, none⟩), .int .i64 i, .string line] w fun e w' => e = .returned (.bool (decide (0 ≤ i ∧ i < (ls.length : Int)))) ∧ TrP w b O n (if 0 ≤ i ∧ i < (ls.length : Int) then ls.set i.toNat line else ls) w' := by
  obtain ⟨V, T, k, rfl, a2, a3, a4, a5, a6⟩ := h
  have h2 := sizes_le ls a5
  obtain ⟨T', c1, c2, c3⟩ := Set_any line a2 a3 (by omega) (by omega) (by omega) i
  refine c1.mono ?_
  rintro e w1 ⟨rfl, hp⟩
  refine ⟨rfl, TrP.of a6 hp c2 ?_ ?_⟩
  · split
    · rw [List.length_set]; omega
    · omega
  · split
    · intro s hs
      rcases List.mem_or_eq_of_mem_set hs with e | e
      · exact a5 s e
      · rw [e]; exact hl
    · exact a5
theorem Get_tr {w : World} {b : Nat} {O : Nat → Prop} {n : Nat} {ls : List ByteArray} (h : Tr w b O n ls) (hn : n ≤ 600000) (i : Int) :
    Calls Try.prog 19 #[.pointer (some ⟨b, 0, none⟩), .int .i64 i] w fun e w' => e = .returned (.tuple #[.string (if 0 ≤ i ∧ i < (ls.length : Int) then ls.getD i.toNat ⟨#[]⟩ else ⟨#[]⟩), .bool (decide (0 ≤ i ∧ i < (ls.length : Int)))]) ∧ From w w' := by
  obtain ⟨V, T, k, rfl, a2, a3, a4, a5, a6⟩ := h
  exact Get_any a2 a3 (by omega) (by omega) i
theorem Len_tr {w : World} {b : Nat} {O : Nat → Prop} {n : Nat} {ls : List ByteArray} (h : Tr w b O n ls) :
    Calls Try.prog 22 #[.pointer (some ⟨b, 0, none⟩)] w fun e w' => e = .returned (.int .i64 (ls.length : Int)) ∧ From w w' := by
  obtain ⟨V, T, k, rfl, a2, a3, a4, a5, a6⟩ := h
  rw [← a3.len]
  exact len_any a2 a3.rep_lt
theorem Bytes_tr {w : World} {b : Nat} {O : Nat → Prop} {n : Nat} {ls : List ByteArray} (h : Tr w b O n ls) :
    Calls Try.prog 15 #[.pointer (some ⟨b, 0, none⟩)] w fun e w' => e = .returned (.int .i64 (sizes ls)) ∧ w = w' := by
  obtain ⟨V, T, k, rfl, a2, a3, a4, a5, a6⟩ := h
  rw [← a3.bytes]
  exact Bytes_any a2
theorem span_tr {w : World} {b : Nat} {O : Nat → Prop} {n : Nat} {ls : List ByteArray} (h : Tr w b O n ls) (hn : n ≤ 600000) (i k : Int) :
    Calls Try.prog 34 #[.pointer (some ⟨b, 0, none⟩), .int .i64 i, .int .i64 k] w fun e w' => e = .returned (.bool (decide (0 ≤ i ∧ 0 ≤ k ∧ i + k ≤ (ls.length : Int)))) ∧ From w w' := by
  obtain ⟨V, T, h2, rfl, a2, a3, a4, a5, a6⟩ := h
  rw [← a3.len]
  exact span_any a2 a3.rep_lt (by rw [a3.len]; omega) i k
def LPost (w : World) (res : List ByteArray) (e : Ending) (w' : World) : Prop := ∃ v', e = .returned v' ∧ Row w' 9 v' (strsC res) ∧ Upd (fun _ => False) w w' ∧ ∀ b, v'.ownBlock = some b → w.heap.size ≤ b
theorem Lines_tr {w : World} {b : Nat} {O : Nat → Prop} {n : Nat} {ls : List ByteArray} (h : Tr w b O n ls) (hn : n ≤ 600000) :
    Calls Try.prog 14 #[.pointer (some ⟨b, 0, none⟩)] w (LPost w ls) := by
  obtain ⟨V, T, k, rfl, a2, a3, a4, a5, a6⟩ := h
  refine (Lines_any a2 a3 (by omega) (by omega)).mono ?_
  rintro e w1 ⟨v', b1, b2, b3, b4⟩
  refine ⟨v', b1, b2, b3.mono (fun k _ e => by cases e), fun b hb => ?_⟩
  rcases b4 b hb with e | e
  · cases e
  · exact e
end Go.Proofs.Ytmklapbecdhnmaa
namespace Go.Proofs.Ytmklapbecdhnmaa
open Go.RowKit
/-- A slice value at which these lines are read, in blocks of F. -/
def Rds (F : Nat → Prop) (w : World) (v : Value) (ls : List ByteArray) : Prop :=
  ∃ a c, v = .slice a ls.length c ∧ ls.length ≤ c ∧ c ≤ maxLen ∧ ∀ i (h : i < ls.length), ∃ b o, a = some ⟨b, o, none⟩ ∧ F b ∧ w.cell? ⟨b, o + i, none⟩ = some (.string ls[i])
theorem Rds.of_row {w : World} {v : Value} {ls : List ByteArray} (h : Row w 9 v (strsC ls)) : Rds (fun k => v.ownBlock = some k) w v ls := by
  have hl : (strsC ls).length = ls.length := by simp [strsC]
  obtain ⟨a, c, rfl⟩ := h.form
  rw [hl] at h ⊢
  obtain ⟨h1, h2, h3⟩ := h.len
  refine ⟨a, c, rfl, h2, h3, fun i hi => ?_⟩
  obtain ⟨g, rfl⟩ := h.addr (by omega)
  refine ⟨g, 0, rfl, rfl, h.cells0 i _ ?_⟩
  rw [strsC, List.getElem?_map, List.getElem?_eq_getElem hi]
  rfl
theorem Rds.mono {F G : Nat → Prop} {w : World} {v : Value} {ls : List ByteArray} (h : Rds F w v ls) (hF : ∀ k, k < w.heap.size → F k → G k) : Rds G w v ls := by
  obtain ⟨a, c, rfl, h1, h2, h3⟩ := h
  refine ⟨a, c, rfl, h1, h2, fun i hi => ?_⟩
  obtain ⟨b, o, rfl, h4, h5⟩ := h3 i hi
  exact ⟨b, o, rfl, hF b (World.block_lt_of_cell? w _ h5) h4, h5⟩
theorem Rds.upd {F G : Nat → Prop} {w w' : World} {v : Value} {ls : List ByteArray} (h : Rds F w v ls) (hu : Upd G w w') (hn : ∀ k, F k → ¬ G k) : Rds F w' v ls := by
  obtain ⟨a, c, rfl, h1, h2, h3⟩ := h
  refine ⟨a, c, rfl, h1, h2, fun i hi => ?_⟩
  obtain ⟨b, o, rfl, h4, h5⟩ := h3 i hi
  exact ⟨b, o, rfl, h4, hu.cell h5 (hn b h4)⟩
theorem Rds.nil (F : Nat → Prop) (w : World) : Rds F w (.slice none 0 0) [] := ⟨none, 0, rfl, Nat.le_refl _, by unfold maxLen; omega, fun i h => by simp at h⟩
theorem Rds.len {F : Nat → Prop} {w : World} {a : Option Addr} {n c : Nat} {ls : List ByteArray} (h : Rds F w (.slice a n c) ls) : n = ls.length ∧ ls.length ≤ maxLen := by
  obtain ⟨a', c', e, h1, h2, h3⟩ := h
  injection e with _ e
  exact ⟨e, by omega⟩
theorem Rds.at {F : Nat → Prop} {w : World} {a : Option Addr} {n c : Nat} {ls : List ByteArray} (h : Rds F w (.slice a n c) ls) (i : Nat) (hi : i < ls.length) : ∃ b o, a = some ⟨b, o, none⟩ ∧ w.cell? ⟨b, o + i, none⟩ = some (.string ls[i]) := by
  obtain ⟨a', c', e, h1, h2, h3⟩ := h
  injection e with e1
  subst e1
  obtain ⟨b, o, e2, _, h4⟩ := h3 i hi
  exact ⟨b, o, e2, h4⟩
/-- What is cut out of it. -/
theorem Rds.cut {F : Nat → Prop} {w : World} {a : Option Addr} {n c : Nat} {ls : List ByteArray} (h : Rds F w (.slice a n c) ls) (l m : Nat) (hl : l ≤ m) (hm : m ≤ ls.length) : ∃ a' c', sliced a l m c 1 = .slice a' (m - l) c' ∧ Rds F w (.slice a' (m - l) c') ((ls.take m).drop l) := by
  obtain ⟨a', c', e, h1, h2, h3⟩ := h
  injection e with e1 e2 e3
  subst e1 e2 e3
  have hlen : ((ls.take m).drop l).length = m - l := by rw [List.length_drop, List.length_take]; omega
  refine ⟨if c = l then a else a.map (·.add (l * 1)), c - l, rfl, _, _, by rw [hlen], by omega, by omega, fun i hi => ?_⟩
  rw [hlen] at hi
  obtain ⟨b, o, rfl, h4, h5⟩ := h3 (l + i) (by omega)
  rw [if_neg (by omega)]
  refine ⟨b, o + l, ?_, h4, ?_⟩
  · simp only [Option.map_some, Nat.mul_one]
    rw [Addr.add_mid]
  · rw [Nat.add_assoc, h5, List.getElem_drop, List.getElem_take]
section
variable {P : Program} {ops : Array Oper} {rest : List Oper} {o : Oper} {a : Act} {w : World} {Q : Exit → Act → World → Prop} {K : Act → World → Prop} {F : Nat → Prop}
theorem wp_cut (t e : TypeId) (x : Operand) (lo hi : Option Operand) (ho : o.op = .slice t x lo hi none) (ht : P.underlying t = some (.slice e)) (ie : TypeInfo) (hie : P.info? e = some ie) (hs : ie.size = 1)
    (v : Value) (hx : a.eval x = v) (ls : List ByteArray) (hv : Rds F w v ls) (l m : Nat) (hl : l ≤ m) (hm : m ≤ ls.length)
    (hlo : (lo = none ∧ l = 0) ∨ ∃ y, lo = some y ∧ a.eval y = .int .i64 (l : Int)) (hhi : (hi = none ∧ m = ls.length) ∨ ∃ y, hi = some y ∧ a.eval y = .int .i64 (m : Int))
    (h : ∀ a' c', Rds F w (.slice a' (m - l) c') ((ls.take m).drop l) → K (a.put o.dst (.slice a' (m - l) c')) w) : o.wp P a w K Q := by
  obtain ⟨ad, c, rfl, h1, h2, h3⟩ := id hv
  obtain ⟨a', c', e1, e2⟩ := hv.cut l m hl hm
  have het : P.elem t = e := by simp [Program.elem, ht]
  have hsz : (sizeOf e).run P w = .ok 1 w := by simp [sizeOf, typeInfo, hie, hs]
  have ht2 : P.underlying t = some (.slice (P.elem t)) := by rw [het]; exact ht
  have key : (Instr.slice t (.slice ad ls.length c) (lo.map a.eval) (hi.map a.eval) none).run P w = .ok (.slice a' (m - l) c') w := by
    rw [← e1]
    rcases hlo with ⟨rfl, rfl⟩ | ⟨y, rfl, hy⟩ <;> rcases hhi with ⟨rfl, rfl⟩ | ⟨z, rfl, hz⟩
    · simp only [Option.map_none, run_slice_all (ht := ht2), het, hsz]
      rfl
    · simp only [Option.map_none, Option.map_some, hz]
      rw [run_slice_h (ht := ht2) (h0 := by omega) (h2 := by omega), het, hsz]
      rfl
    · simp only [Option.map_none, Option.map_some, hy]
      rw [run_slice_l (ht := ht2) (h0 := by omega) (h1 := by omega), het, hsz]
      rfl
    · simp only [Option.map_some, hy, hz]
      rw [run_slice_lh (ht := ht2) (h0 := by omega) (h1 := by omega) (h2 := by omega), het, hsz]
      rfl
  unfold Oper.wp execOp
  simp only [ho, hx, Option.map_none, run_sliceAt_slice (h := ht2), Sem.run_bind, Sem.run_pure, Result.andThen_ok, key]
  exact h a' c' e2
theorem wpList_cut (hgd : o.guard = none) (t e : TypeId) (x : Operand) (lo hi : Option Operand) (ho : o.op = .slice t x lo hi none) (ht : P.underlying t = some (.slice e)) (ie : TypeInfo) (hie : P.info? e = some ie) (hs : ie.size = 1)
    (v : Value) (hx : a.eval x = v) (ls : List ByteArray) (hv : Rds F w v ls) (l m : Nat) (hl : l ≤ m) (hm : m ≤ ls.length)
    (hlo : (lo = none ∧ l = 0) ∨ ∃ y, lo = some y ∧ a.eval y = .int .i64 (l : Int)) (hhi : (hi = none ∧ m = ls.length) ∨ ∃ y, hi = some y ∧ a.eval y = .int .i64 (m : Int))
    (h : ∀ a' c', Rds F w (.slice a' (m - l) c') ((ls.take m).drop l) → wpList P ops Q rest (a.put o.dst (.slice a' (m - l) c')) w) : wpList P ops Q (o :: rest) a w :=
  wpList_plain hgd fun _ hK => wp_cut t e x lo hi ho ht ie hie hs v hx ls hv l m hl hm hlo hhi fun a' c' hr => hK _ _ (h a' c' hr)
theorem wp_append_rds (s x : Operand) (t : TypeId) (ho : o.op = .call { callee := .builtin .append, args := #[s, x], argTypes := #[t, t] })
    (i : TypeInfo) (z : Value) (ht : P.underlying t = some (.slice 9)) (hi : P.info? 9 = some i) (hz : i.zero = some z) (hsize : i.size = 1) (hby : i.bytes = 16) (hzs : z.cells.size = 1)
    (v : Value) (hs : a.eval s = v) (xs : List ByteArray) (hv : Row w 9 v (strsC xs)) (v2 : Value) (hx : a.eval x = v2) (ys : List ByteArray) (h2 : Rds F w v2 ys)
    (h63 : xs.length + ys.length ≤ 1000000)
    (h : ∀ v' w', Row w' 9 v' (strsC (xs ++ ys)) → Upd (fun b => v.ownBlock = some b) w w' → Near w v v' → K (a.put o.dst v') w') : o.wp P a w K Q := by
  have l1 : (strsC xs).length = xs.length := by simp [strsC]
  have l2 : (strsC ys).length = ys.length := by simp [strsC]
  obtain ⟨ad, c, rfl, h3, h4, h5⟩ := h2
  have key : ∃ v' w', (Builtin.append_ #[t, t] o.type #[v, .slice ad ys.length c]).run P w = .ok v' w' ∧ Row w' 9 v' (strsC xs ++ strsC ys) ∧ Upd (fun b => v.ownBlock = some b) w w' ∧ Near w v v' := by
    cases ad with
    | none =>
      have hy : ys = [] := by
        cases ys with
        | nil => rfl
        | cons y ys => obtain ⟨b, o, e, _⟩ := h5 0 (by simp); cases e
      subst hy
      exact ⟨v, w, run_append_none w t o.type _ i ht hi hsize v _ hv c, by rw [show strsC [] = [] from rfl, List.append_nil]; exact hv, Upd.refl _ _, Near.refl _ _⟩
    | some A =>
      have hrow := run_append_row (P := P) w t o.type _ i z 16 ht hi hz hsize hby hzs v (strsC xs) hv A ys.length c (strsC ys) l2 (fun j u hj => by
        rw [strsC, List.getElem?_map] at hj
        have hjl : j < ys.length := by
          rcases Nat.lt_or_ge j ys.length with e | e
          · exact e
          · rw [List.getElem?_eq_none e] at hj; cases hj
        obtain ⟨b, o, e, _, hc⟩ := h5 j hjl
        injection e with e
        subst e
        rw [List.getElem?_eq_getElem hjl] at hj
        injection hj with hj
        rw [Addr.add_mid, hc, ← hj]) (strsC_ones _) (by rw [l1]; unfold maxLen; omega) (by rw [l1]; omega)
      exact hrow
  obtain ⟨v', w', hr, a2, a3, a4⟩ := key
  unfold Oper.wp execOp
  simp only [ho, resolve, invoke, builtin, Sem.run_bind, Sem.run_pure, Result.andThen_ok, List.map_toArray, List.map_cons, List.map_nil, hs, hx, hr]
  exact h v' w' (by rw [show strsC (xs ++ ys) = strsC xs ++ strsC ys from List.map_append]; exact a2) a3 a4
theorem wpList_append_rds (hgd : o.guard = none) (s x : Operand) (t : TypeId) (ho : o.op = .call { callee := .builtin .append, args := #[s, x], argTypes := #[t, t] })
    (i : TypeInfo) (z : Value) (ht : P.underlying t = some (.slice 9)) (hi : P.info? 9 = some i) (hz : i.zero = some z) (hsize : i.size = 1) (hby : i.bytes = 16) (hzs : z.cells.size = 1)
    (v : Value) (hs : a.eval s = v) (xs : List ByteArray) (hv : Row w 9 v (strsC xs)) (v2 : Value) (hx : a.eval x = v2) (ys : List ByteArray) (h2 : Rds F w v2 ys)
    (h63 : xs.length + ys.length ≤ 1000000)
    (h : ∀ v' w', Row w' 9 v' (strsC (xs ++ ys)) → Upd (fun b => v.ownBlock = some b) w w' → Near w v v' → wpList P ops Q rest (a.put o.dst v') w') : wpList P ops Q (o :: rest) a w :=
  wpList_plain hgd fun _ hK => wp_append_rds s x t ho i z ht hi hz hsize hby hzs v hs xs hv v2 hx ys h2 h63 fun v' w' a1 a2 a3 => hK _ _ (h v' w' a1 a2 a3)
end
end Go.Proofs.Ytmklapbecdhnmaa
namespace Go.Proofs.Ytmklapbecdhnmaa
open Go.RowKit
theorem set_take {ls new : List ByteArray} {i j k : Nat} (hj : j < new.length) (hi : i + k ≤ ls.length) (hk : j < k) : (spliceL ls i j (new.take j)).set (i + j) new[j] = spliceL ls i (j + 1) (new.take (j + 1)) := by
  have hl : (new.take j).length = j := by rw [List.length_take]; omega
  have := splice_set ls i j (new.take j) new[j] (by omega)
  rw [hl] at this
  rw [this, List.take_append_getElem hj]
theorem del_take {ls new : List ByteArray} {i s d k : Nat} (hs : s ≤ new.length) (hi : i + k ≤ ls.length) (hk : s + d < k) : delL (spliceL ls i (s + d) (new.take s)) (i + s) = spliceL ls i (s + (d + 1)) (new.take s) := by
  have hl : (new.take s).length = s := by rw [List.length_take]; omega
  have := splice_del ls i (s + d) (new.take s) (by omega)
  rw [hl] at this
  exact this
theorem ins_take {ls new : List ByteArray} {i k j : Nat} (hj : j < new.length) (hi : i + k ≤ ls.length) : insL (spliceL ls i k (new.take j)) (i + j) new[j] = spliceL ls i k (new.take (j + 1)) := by
  have hl : (new.take j).length = j := by rw [List.length_take]; omega
  have := splice_ins ls i k (new.take j) new[j] (by omega)
  rw [hl] at this
  rw [this, List.take_append_getElem hj]
theorem take_len {ls new : List ByteArray} {i k j : Nat} (hj : j ≤ new.length) (hi : i + k ≤ ls.length) : (spliceL ls i k (new.take j)).length + k = ls.length + j := by
  rw [splice_len _ _ _ _ hi, List.length_take]
  omega
theorem Set_sp {w wr : World} {b : Nat} {O : Nat → Prop} {n : Nat} {ls new : List ByteArray} {i j k : Nat} (h : TrP w b O n (spliceL ls i j (new.take j)) wr) (hn : n + 24 ≤ 600000) (hj : j < new.length) (hi : i + k ≤ ls.length) (hk : j < k) (hs : ∀ s ∈ new, s.size ≤ 140737488351232) :
    Calls Try.prog 20 #[.pointer (some ⟨b, 0, none⟩), .int .i64 ((i : Int) + (j : Int)), .string new[j]] wr fun e w' => e = .returned (.bool true) ∧ TrP w b O n (spliceL ls i (j + 1) (new.take (j + 1))) w' := by
  obtain ⟨O1, h1, h2, h3⟩ := h
  have hl := take_len (ls := ls) (new := new) (i := i) (k := j) (Nat.le_of_lt hj) (by omega)
  refine (Set_tr h1 hn new[j] (hs _ (List.getElem_mem hj)) ((i : Int) + (j : Int))).mono ?_
  rintro e w1 ⟨rfl, hp⟩
  rw [if_pos (by omega), show ((i : Int) + (j : Int)).toNat = i + j by omega, set_take hj hi hk] at hp
  exact ⟨by rw [decide_eq_true (by omega)], TrP.then h2 h3 hp⟩
theorem Delete_sp {w wr : World} {b : Nat} {O : Nat → Prop} {n : Nat} {ls new : List ByteArray} {i s d k : Nat} (h : TrP w b O n (spliceL ls i (s + d) (new.take s)) wr) (hn : n + 24 ≤ 600000) (hs : s ≤ new.length) (hi : i + k ≤ ls.length) (hk : s + d < k) :
    Calls Try.prog 21 #[.pointer (some ⟨b, 0, none⟩), .int .i64 ((i : Int) + (s : Int))] wr fun e w' => e = .returned (.bool true) ∧ TrP w b O n (spliceL ls i (s + (d + 1)) (new.take s)) w' := by
  obtain ⟨O1, h1, h2, h3⟩ := h
  have hl := take_len (ls := ls) (new := new) (i := i) (k := s + d) hs (by omega)
  refine (Delete_tr h1 hn ((i : Int) + (s : Int))).mono ?_
  rintro e w1 ⟨rfl, hp⟩
  rw [if_pos (by omega), if_pos (by omega), show ((i : Int) + (s : Int)).toNat = i + s by omega, del_take hs hi hk] at hp
  exact ⟨by rw [decide_eq_true (by omega)], TrP.then h2 h3 hp⟩
theorem Insert_sp {w wr : World} {b : Nat} {O : Nat → Prop} {n : Nat} {ls new : List ByteArray} {i k j : Nat} (h : TrP w b O n (spliceL ls i k (new.take j)) wr) (hn : n + 24 ≤ 600000) (hj : j < new.length) (hi : i + k ≤ ls.length) (hs : ∀ s ∈ new, s.size ≤ 140737488351232) (x : Int) (hx : x = (i : Int) + (j : Int)) :
    Calls Try.prog 12 #[.pointer (some ⟨b, 0, none⟩), .int .i64 x, .string new[j]] wr fun e w' => e = .returned (.bool true) ∧ TrP w b O (n + 24) (spliceL ls i k (new.take (j + 1))) w' := by
  subst hx
  obtain ⟨O1, h1, h2, h3⟩ := h
  have hl := take_len (ls := ls) (new := new) (i := i) (k := k) (Nat.le_of_lt hj) hi
  refine (Insert_tr h1 hn new[j] (hs _ (List.getElem_mem hj)) ((i : Int) + (j : Int))).mono ?_
  rintro e w1 ⟨rfl, hp⟩
  rw [if_pos (by omega), show ((i : Int) + (j : Int)).toNat = i + j by omega, ins_take hj hi] at hp
  exact ⟨by rw [decide_eq_true (by omega)], TrP.then h2 h3 hp⟩
theorem Splice_out {w : World} {b : Nat} {O : Nat → Prop} {n : Nat} {ls : List ByteArray} (h : Tr w b O n ls) (hn : n ≤ 600000) (i k : Int) (v : Value) (hik : ¬ (0 ≤ i ∧ 0 ≤ k ∧ i + k ≤ (ls.length : Int))) :
    Calls Try.prog 26 #[.pointer (some ⟨b, 0, none⟩), .int .i64 i, .int .i64 k, v] w fun e w' => e = .returned (.bool false) ∧ TrP w b O n ls w' := by
  have HH := Lib.hid h
  have hs := span_tr h hn i k
  rw [decide_eq_false hik] at hs
  have HS := Lib.hid hs
  clear h hs hik
  go_enter Try.func26, Try.ntmps26
  go_wp2_with (first
    | (go_at_call 34; refine HS.out.mono ?_; rintro e w1 ⟨rfl, hq1⟩))
  go_ret
  exact ⟨rfl, O, HH.out.newer (false_upd2 hq1), (false_upd2 hq1).mono (fun _ _ e => e.elim), fun k hk => .inl hk⟩
set_option maxRecDepth 100000 in
set_option maxHeartbeats 16000000 in
theorem Splice_in {w : World} {b : Nat} {O : Nat → Prop} {n : Nat} {ls : List ByteArray} (h : Tr w b O n ls) (i k : Nat) (hik : i + k ≤ ls.length) (v : Value) (new : List ByteArray) (hn : n + 24 * (new.length + 1) ≤ 600000) {F : Nat → Prop} (hv : Rds F w v new) (hd : ∀ k, F k → ¬ O k) (hs : ∀ s ∈ new, s.size ≤ 140737488351232) :
    Calls Try.prog 26 #[.pointer (some ⟨b, 0, none⟩), .int .i64 (i : Int), .int .i64 (k : Int), v] w fun e w' => e = .returned (.bool true) ∧ TrP w b O (n + 24 * new.length) (spliceL ls i k new) w' := by
  have HH := Lib.hid h
  have hsp := span_tr h (by omega) (i : Int) (k : Int)
  have hfew := h.few
  rw [decide_eq_true (by omega)] at hsp
  have HS := Lib.hid hsp
  obtain ⟨i0, hi, hz0, hz3, hz4⟩ := info_parts info_str1
  obtain ⟨a, c, rfl, hlc, hcm, hcell⟩ := id hv
  have HV : Hid (Rds (fun q => F q ∧ q < w.heap.size) w (.slice a new.length c) new) := Lib.hid (hv.mono (fun q h1 h2 => ⟨h2, h1⟩))
  have HD := Lib.hid hd
  have HSZ := Lib.hid hs
  obtain ⟨m, hm⟩ : ∃ m, min k new.length = m := ⟨_, rfl⟩
  have hmk : m ≤ k := by omega
  have hmn : m ≤ new.length := by omega
  obtain ⟨N, hN⟩ : ∃ N, new.length = N := ⟨_, rfl⟩
  have hmin : min (k : Int) (N : Int) = (m : Int) := by omega
  have HN := Lib.hid hN
  rw [hN] at hmn hn hlc
  have hor : Hid (m = k ∨ m = N) := Lib.hid (by omega)
  clear h hsp hv hd hs hm hcell
  rw [hN]
  clear hN
  go_enter Try.func26, Try.ntmps26
  go_upto_region 3 with (first
    | (go_at_call 34; refine HS.out.mono ?_; rintro e w1 ⟨rfl, hq1⟩))
  have HU1 : Hid (Upd O w w1) := Lib.hid ((false_upd2 hq1).mono (fun _ _ e => e.elim))
  have HP1 : Hid (TrP w1 b O n ls w1) := Lib.hid (TrP.refl (HH.out.newer (false_upd2 hq1)))
  have HV1 : Hid (Rds (fun q => F q ∧ q < w.heap.size) w1 (.slice a new.length c) new) := Lib.hid (HV.out.upd (false_upd2 hq1) (fun _ _ e => e))
  rw [HN.out] at HV1
  clear hq1
  go_wp2_with (first
    | ((with_reducible refine stopSl 22 _ _ _ _ rfl ?_); unfold Stop; refine wpList_cut rfl 22 9 _ _ _ rfl Try.underlying22 i0 hi hz3 _ rfl new HV1.out 0 m (Nat.zero_le _) (by rw [HN.out]; exact hmn) (.inl ⟨rfl, rfl⟩) (.inr ⟨_, rfl, rfl⟩) ?_; intro a2 c2 hr2))
  rw [List.drop_zero, Nat.sub_zero] at hr2
  have HA2 : Hid (Rds (fun q => F q ∧ q < w.heap.size) w1 (.slice a2 m c2) (new.take m)) := Lib.hid hr2
  clear hr2
  go_loopg [27] m (fun gk iv wr => ∃ j : Nat, iv = .int .i64 (j : Int) ∧ j + gk = m ∧ Hid (TrP w1 b O n (spliceL ls i j (new.take j)) wr))
  case atStart => exact ⟨0, rfl, by omega, Lib.hid (by rw [List.take_zero, splice_zero]; exact HP1.out)⟩
  case round =>
    obtain ⟨j, rfl, hgk, HP⟩ := hrel
    by_cases hlt : j < m
    · have hjn : j < new.length := by rw [HN.out]; omega
      have hU : Upd O w1 wr := by obtain ⟨_, _, q, _⟩ := HP.out; exact q
      obtain ⟨g, o, rfl, e1⟩ := (HA2.out.upd hU (fun q e => HD.out q e.1)).at j (by rw [List.length_take]; omega)
      rw [List.getElem_take] at e1
      have HC := Lib.hid (Set_sp HP.out (by omega) hjn hik (by omega : j < k) HSZ.out)
      obtain ⟨x, hx⟩ : ∃ x, new[j] = x := ⟨_, rfl⟩
      rw [hx] at e1 HC
      clear hU hx
      go_wp2_with (first
        | (go_at_call 20; refine HC.out.mono ?_; rintro e w5 ⟨rfl, hp5⟩))
      go_roundg (gk - 1)
      case measure => omega
      case rel => exact ⟨j + 1, by go_num, by omega, Lib.hid hp5⟩
    · obtain rfl : j = m := by omega
      have HPa := HP
      clear HP HA2
      obtain ⟨D, hD⟩ : ∃ D, k - j = D := ⟨_, rfl⟩
      have gs : IntKind.i64.wrap ((k : Int) - (j : Int)) = (D : Int) := by rw [IntWalk.i64_in _ (by omega)]; omega
      go_wp2
      clear gs
      go_loopg [42] D (fun gk iv wr => ∃ d : Nat, iv = .int .i64 (d : Int) ∧ d + gk = D ∧ Hid (TrP w1 b O n (spliceL ls i (j + d) (new.take j)) wr))
      case atStart => exact ⟨0, rfl, by omega, HPa⟩
      case round =>
        obtain ⟨d, rfl, hgd, HP⟩ := hrel
        by_cases hlt2 : d < D
        · have HC := Lib.hid (Delete_sp HP.out (by omega) (by rw [HN.out]; exact hmn) hik (by omega : j + d < k))
          go_wp2_with (first
            | (go_at_call 21; refine HC.out.mono ?_; rintro e w5 ⟨rfl, hp5⟩))
          go_roundg (gk - 1)
          case measure => omega
          case rel => exact ⟨d + 1, by go_num, by omega, Lib.hid hp5⟩
        · obtain rfl : d = D := by omega
          have hkd : j + d = k := by omega
          have HPb : Hid (TrP w1 b O n (spliceL ls i k (new.take j)) wr) := Lib.hid (by rw [← hkd]; exact HP.out)
          clear HP HPa
          have hU : Upd O w1 wr := by obtain ⟨_, _, q, _⟩ := HPb.out; exact q
          have HVr : Hid (Rds (fun q => F q ∧ q < w.heap.size) wr (.slice a N c) new) := Lib.hid (HV1.out.upd hU (fun q e => HD.out q e.1))
          clear hU
          go_wp2_with (first
            | ((with_reducible refine stopSl 22 _ _ _ _ rfl ?_); unfold Stop; refine wpList_cut rfl 22 9 _ _ _ rfl Try.underlying22 i0 hi hz3 _ rfl new HVr.out j N hmn (by rw [HN.out]; exact Nat.le_refl _) (.inr ⟨_, rfl, rfl⟩) (.inl ⟨rfl, HN.out.symm⟩) ?_; intro a3 c3 hr3))
          obtain ⟨E, hE⟩ : ∃ E, N - j = E := ⟨_, rfl⟩
          rw [hE] at hr3 ⊢
          rw [List.take_of_length_le (by rw [HN.out]; exact Nat.le_refl _)] at hr3
          have HA3 := Lib.hid hr3
          clear hr3
          obtain ⟨O2, hq2, hu2, hg2⟩ := HPb.out
          have HP2 : Hid (TrP wr b O2 n (spliceL ls i k (new.take j)) wr) := Lib.hid (TrP.refl hq2)
          have HU2 := Lib.hid hu2
          have HG2 := Lib.hid hg2
          have HD2 : Hid (∀ q, F q ∧ q < w.heap.size → ¬ O2 q) := Lib.hid (fun q hq ho => by
            rcases hg2 q ho with e | e
            · exact HD.out q hq.1 e
            · have := HU1.out.size; omega)
          clear hq2 hu2 hg2
          generalize wr = W2 at *
          go_loopg [54] E (fun gk iv wr => ∃ q : Nat, iv = .int .i64 (q : Int) ∧ q + gk = E ∧ Hid (TrP W2 b O2 (n + 24 * q) (spliceL ls i k (new.take (j + q))) wr))
          case atStart => exact ⟨0, rfl, by omega, HP2⟩
          case round =>
            obtain ⟨q, rfl, hgq, HP⟩ := hrel
            by_cases hlt3 : q < E
            · have hjn : j + q < new.length := by rw [HN.out]; omega
              have hU : Upd O2 W2 wr := by obtain ⟨_, _, q, _⟩ := HP.out; exact q
              obtain ⟨g, o, rfl, e1⟩ := (HA3.out.upd hU HD2.out).at q (by rw [List.length_drop, HN.out]; omega)
              rw [List.getElem_drop] at e1
              have HC := Lib.hid (Insert_sp HP.out (by omega) hjn hik HSZ.out ((i : Int) + (j : Int) + (q : Int)) (by omega))
              obtain ⟨x, hx⟩ : ∃ x, new[j + q] = x := ⟨_, rfl⟩
              rw [hx] at e1 HC
              clear hU hx
              have gs1 : IntKind.i64.wrap ((i : Int) + (j : Int)) = (i : Int) + (j : Int) := IntWalk.i64_in _ (by omega)
              have gs2 : IntKind.i64.wrap ((i : Int) + (j : Int) + (q : Int)) = (i : Int) + (j : Int) + (q : Int) := IntWalk.i64_in _ (by omega)
              go_wp2_with (first
                | (go_at_call 12; refine HC.out.mono ?_; rintro e w5 ⟨rfl, hp5⟩))
              go_roundg (gk - 1)
              case measure => omega
              case rel => exact ⟨q + 1, by go_num, by omega, Lib.hid (by rw [show n + 24 * (q + 1) = n + 24 * q + 24 by omega, show j + (q + 1) = j + q + 1 by omega]; exact hp5)⟩
            · have hqe : j + q = N := by omega
              have HPc : Hid (TrP W2 b O2 (n + 24 * N) (spliceL ls i k new) wr) := Lib.hid (by
                have := HP.out
                rw [hqe, List.take_of_length_le (by rw [HN.out]; exact Nat.le_refl _)] at this
                exact this.mono (by omega))
              clear HP
              go_wp2
              go_ret
              exact ⟨rfl, TrP.then HU1.out (fun q e => .inl e) (TrP.then HU2.out HG2.out HPc.out)⟩
/-- Splice, whole. -/
theorem Splice_tr {w : World} {b : Nat} {O : Nat → Prop} {n : Nat} {ls : List ByteArray} (h : Tr w b O n ls) (i k : Int) (v : Value) (new : List ByteArray) (hn : n + 24 * (new.length + 1) ≤ 600000) {F : Nat → Prop} (hv : Rds F w v new) (hd : ∀ k, F k → ¬ O k) (hs : ∀ s ∈ new, s.size ≤ 140737488351232) :
    Calls Try.prog 26 #[.pointer (some ⟨b, 0, none⟩), .int .i64 i, .int .i64 k, v] w fun e w' => e = .returned (.bool (decide (0 ≤ i ∧ 0 ≤ k ∧ i + k ≤ (ls.length : Int)))) ∧ TrP w b O (n + 24 * new.length) (if 0 ≤ i ∧ 0 ≤ k ∧ i + k ≤ (ls.length : Int) then spliceL ls i.toNat k.toNat new else ls) w' := by
  by_cases hik : 0 ≤ i ∧ 0 ≤ k ∧ i + k ≤ (ls.length : Int)
  · rw [if_pos hik, decide_eq_true hik]
    obtain ⟨i', rfl⟩ : ∃ n : Nat, i = (n : Int) := ⟨i.toNat, by omega⟩
    obtain ⟨k', rfl⟩ : ∃ n : Nat, k = (n : Int) := ⟨k.toNat, by omega⟩
    exact Splice_in h i' k' (by omega) v new hn hv hd hs
  · rw [if_neg hik, decide_eq_false hik]
    refine (Splice_out h (by omega) i k v hik).mono ?_
    rintro e w1 ⟨rfl, hp⟩
    exact ⟨rfl, hp.mono (by omega)⟩
end Go.Proofs.Ytmklapbecdhnmaa
namespace Go.Proofs.Ytmklapbecdhnmaa
open Go.RowKit
def PPost (w : World) (ok : Bool) (res : List ByteArray) (e : Ending) (w' : World) : Prop := ∃ v', e = .returned (.tuple #[v', .bool ok]) ∧ Row w' 9 v' (strsC res) ∧ Upd (fun _ => False) w w' ∧ ∀ b, v'.ownBlock = some b → w.heap.size ≤ b
theorem Part_out {w : World} {b : Nat} {O : Nat → Prop} {n : Nat} {ls : List ByteArray} (h : Tr w b O n ls) (hn : n ≤ 600000) (i k : Int) (hik : ¬ (0 ≤ i ∧ 0 ≤ k ∧ i + k ≤ (ls.length : Int))) :
    Calls Try.prog 18 #[.pointer (some ⟨b, 0, none⟩), .int .i64 i, .int .i64 k] w (PPost w false []) := by
  have hs := span_tr h hn i k
  rw [decide_eq_false hik] at hs
  have HS := Lib.hid hs
  clear h hs hik
  go_enter Try.func18, Try.ntmps18
  go_wp2_with (first
    | (go_at_call 34; refine HS.out.mono ?_; rintro e w1 ⟨rfl, hq1⟩))
  go_ret2
  exact ⟨_, rfl, .nil _ _, (false_upd2 hq1).mono (fun _ _ e => e.elim), fun b hb => by cases hb⟩
set_option maxRecDepth 100000 in
set_option maxHeartbeats 16000000 in
theorem Part_in {w : World} {b : Nat} {O : Nat → Prop} {n : Nat} {ls : List ByteArray} (h : Tr w b O n ls) (hn : n ≤ 600000) (i k : Nat) (hik : i + k ≤ ls.length) :
    Calls Try.prog 18 #[.pointer (some ⟨b, 0, none⟩), .int .i64 (i : Int), .int .i64 (k : Int)] w (PPost w true ((ls.drop i).take k)) := by
  have HH := Lib.hid h
  have hs := span_tr h hn (i : Int) (k : Int)
  rw [decide_eq_true (by omega)] at hs
  have HS := Lib.hid hs
  have hfew := h.few
  obtain ⟨i0, hi, hz0, hz3, hz4⟩ := info_parts info_str1
  obtain ⟨N, hN⟩ : ∃ N, ls.length = N := ⟨_, rfl⟩
  rw [hN] at hik hfew
  have HN := Lib.hid hN
  clear h hs hN
  go_enter Try.func18, Try.ntmps18
  go_wp2_with (first
    | (go_at_call 34; refine HS.out.mono ?_; rintro e w1 ⟨rfl, hq1⟩))
  have HU1 : Hid (Upd (fun _ => False) w w1) := Lib.hid (false_upd2 hq1)
  clear hq1
  go_loopg [18, 8] k (fun gk iv ov wr => ∃ j : Nat, iv = .int .i64 (j : Int) ∧ j + gk = k ∧ Hid (Row wr 9 ov (strsC ((ls.drop i).take j))) ∧ Hid (Upd (fun _ => False) w wr) ∧ Hid (∀ b, ov.ownBlock = some b → w.heap.size ≤ b))
  case atStart => exact ⟨0, rfl, by omega, Lib.hid (.nil _ _), HU1, Lib.hid (fun b hb => by cases hb)⟩
  case round =>
    obtain ⟨j, rfl, hgk, HR, HU, HB⟩ := hrel
    by_cases hlt : j < k
    · have hjl : i + j < ls.length := by rw [HN.out]; omega
      obtain ⟨x, hx⟩ : ∃ x, ls[i + j] = x := ⟨_, rfl⟩
      have hget := Get_tr (HH.out.newer HU.out) hn ((i : Int) + (j : Int))
      rw [if_pos (by omega), decide_eq_true (by omega), show ((i : Int) + (j : Int)).toNat = i + j by omega, List.getD_eq_getElem?_getD, List.getElem?_eq_getElem hjl, Option.getD_some, hx] at hget
      have HG := Lib.hid hget
      have HL : Hid (((strsC ((ls.drop i).take j)).length : Nat) = j) := Lib.hid (by rw [strsC, List.length_map, List.length_take, List.length_drop, HN.out]; omega)
      have HX : Hid (strsC ((ls.drop i).take j) ++ [.string x] = strsC ((ls.drop i).take (j + 1))) := Lib.hid (by
        have hj2 : j < (ls.drop i).length := by rw [List.length_drop]; omega
        rw [List.take_add_one, List.getElem?_eq_getElem hj2, List.getElem_drop, hx]
        show _ = List.map _ _
        rw [List.map_append]
        rfl)
      clear hget hx
      have gs1 : IntKind.i64.wrap ((i : Int) + (j : Int)) = (i : Int) + (j : Int) := IntWalk.i64_in _ (by omega)
      go_wp2_with (first
        | (go_at_call 19; refine HG.out.mono ?_; rintro e w5 ⟨rfl, hq5⟩)
        | ((with_reducible refine stopBS 22 _ _ rfl ?_); unfold Stop; refine wpList_sliceLit_blk rfl 22 9 1 _ rfl Try.underlying22 #[.string x] (by go_simp; first | done | rfl | kernel_rfl) ?_; intro bS w2 hbS kS hu2 hs2)
        | (at_builtin; refine wpList_append_rows _ rfl _ _ 22 rfl 9 i0 _ 16 Try.underlying22 hi hz0 hz3 hz4 rfl _ rfl _ ((HR.out.upd (false_upd2 hq5) (fun _ _ e => e)).upd hu2 (fun _ _ h => h)) (.slice (some ⟨bS, 0, none⟩) 1 1) rfl [.string x] (row_lit kS) (fun u hu => by simp only [List.mem_cons, List.not_mem_nil, or_false] at hu; rw [hu]; rfl) (by rw [HL.out]; unfold maxLen; show j + 1 ≤ _; omega) (by rw [HL.out]; show (j + 1) * 16 ≤ _; omega) ?_; intro v3 w3 hr3 hu3 hn3))
      go_roundg (gk - 1)
      case measure => omega
      case rel => exact ⟨j + 1, by go_num, by omega, Lib.hid (by rw [← HX.out]; exact hr3), Lib.hid (((HU.out.then (false_upd2 hq5) (fun _ _ e => e)).then hu2 (fun _ _ h => h)).then hu3 (fun b hb e => by have := HB.out b e; omega)), Lib.hid (fun b hb => by
        rcases hn3 b hb with e | e
        · exact HB.out b e
        · have := HU.out.size; have := (false_upd2 hq5).size; have := hu2.size; omega)⟩
    · obtain rfl : j = k := by omega
      go_wp2
      go_ret2
      exact ⟨_, rfl, HR.out, HU.out, HB.out⟩
theorem Part_tr {w : World} {b : Nat} {O : Nat → Prop} {n : Nat} {ls : List ByteArray} (h : Tr w b O n ls) (hn : n ≤ 600000) (i k : Int) :
    Calls Try.prog 18 #[.pointer (some ⟨b, 0, none⟩), .int .i64 i, .int .i64 k] w (PPost w (decide (0 ≤ i ∧ 0 ≤ k ∧ i + k ≤ (ls.length : Int))) (if 0 ≤ i ∧ 0 ≤ k ∧ i + k ≤ (ls.length : Int) then (ls.drop i.toNat).take k.toNat else [])) := by
  by_cases hik : 0 ≤ i ∧ 0 ≤ k ∧ i + k ≤ (ls.length : Int)
  · rw [if_pos hik, decide_eq_true hik]
    obtain ⟨i', rfl⟩ : ∃ n : Nat, i = (n : Int) := ⟨i.toNat, by omega⟩
    obtain ⟨k', rfl⟩ : ∃ n : Nat, k = (n : Int) := ⟨k.toNat, by omega⟩
    exact Part_in h hn i' k' (by omega)
  · rw [if_neg hik, decide_eq_false hik]
    exact Part_out h hn i k hik
end Go.Proofs.Ytmklapbecdhnmaa
