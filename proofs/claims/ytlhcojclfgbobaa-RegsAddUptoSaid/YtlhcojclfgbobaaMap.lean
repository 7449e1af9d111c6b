/- A map keyed by a byte whose elements are values as they lie: look, store, delete; the tuple's entry and its store. -/
import Derived.Test.YtlhcojclfgbobaaProg
import Derived.Test.YtlhcojclfgbobaaMem
import Derived.WalkKit
import Derived.ProofKit
import Derived.Maps.OwnSet
import Derived.Maps.Views
import Derived.WideKeyEntry
namespace Go.Proofs.Ytlhcojclfgbobaa
open Go.RowKit Go.Maps Go.WideAt Go.ChangeShapes Go.WideShapes Go.MapKept
open Go.ChangeMaps (setBlock modify_eq_set heap_setBlock_same heap_setBlock_other)
open Go.WideElems (Fit)

/-- An element, as it lies. -/
def rawE (v : Value) : Option (DataW Value × List MemPlace) := some (.held v, [])

theorem u8_keyed : Keyed Try.prog 5 := int_keyed Try.underlying5
theorem u8_key {c : Int} (h0 : 0 ≤ c) (h1 : c ≤ 255) : keyOf Try.prog 5 (.int .u8 c) = some (.int .u8 c) :=
  keyOf_int_mk Try.underlying5 (by simp [Lit.wf, IntKind.min, IntKind.max, IntKind.signed, IntKind.bits]; omega)

/-- Block b is a map; at key c stands M c. -/
def MapAt (w : World) (b n : Nat) (M : Int → Option Value) : Prop :=
  ∃ D : DataW Value, w.ownsMap Try.prog 5 rawE b n D ∧ ∀ c, 0 ≤ c → c ≤ 255 → (M c = none ∧ Maps.has D (.int .u8 c) = false) ∨ (∃ v, M c = some v ∧ Maps.has D (.int .u8 c) = true ∧ ∀ z, D.atKey (.int .u8 c) z = .held v)

def setM {α : Type} (M : Int → Option α) (k : Int) (v : Option α) : Int → Option α := fun c => if c = k then v else M c

theorem MapAt.new (w : World) : MapAt (w.alloc (.map #[] 0)) w.heap.size 0 (fun _ => none) :=
  ⟨.map [], World.ownsMap_made _ _ _ _, fun c _ _ => .inl ⟨rfl, rfl⟩⟩
theorem MapAt.lt {w : World} {b n : Nat} {M : Int → Option Value} (h : MapAt w b n M) : b < w.heap.size := by obtain ⟨D, h, _⟩ := h; exact h.lt
theorem MapAt.nocell {w : World} {b n : Nat} {M : Int → Option Value} (h : MapAt w b n M) (o : Nat) (s : Option Nat) : w.cell? ⟨b, o, s⟩ = none := by
  obtain ⟨D, ⟨es, clock, hb, _⟩, _⟩ := h
  simp [World.cell?, hb]
theorem MapAt.upd {F : Nat → Prop} {w w' : World} {b n : Nat} {M : Int → Option Value} (h : MapAt w b n M) (hu : Upd F w w') (hF : ¬ F b) : MapAt w' b n M := by
  obtain ⟨D, ⟨es, clock, hb, F', hs, hD⟩, hv⟩ := h
  exact ⟨D, ⟨es, clock, hu.heap hb hF, F', hs, hD⟩, hv⟩
theorem MapAt.mono {w : World} {b n n' : Nat} {M : Int → Option Value} (h : MapAt w b n M) (hn : n ≤ n') : MapAt w b n' M := by
  obtain ⟨D, h, hv⟩ := h
  exact ⟨D, h.mono hn, hv⟩

def zeroReg : Value := .agg #[.slice none 0 0, .bool false]
theorem zero_reg (w : World) : (zeroValue 24).run Try.prog w = .ok zeroReg w := by kernel_rfl

theorem MapAt.look {w : World} {b n : Nat} {M : Int → Option Value} (h : MapAt w b n M) {c : Int} (h0 : 0 ≤ c) (h1 : c ≤ 255) :
    (Instr.lookup 54 (.map (some b)) (.int .u8 c) true).run Try.prog w = .ok (.tuple #[(M c).getD zeroReg, .bool (M c).isSome]) w := by
  obtain ⟨D, hD, hv⟩ := h
  obtain ⟨v, ps, hrun, hR⟩ := hD.look_ok u8_keyed Try.underlying54 (zero_reg w) (zd := .held zeroReg) (zp := []) rfl (u8_key h0 h1)
  rw [hrun]
  simp only [rawE, Option.some.injEq, Prod.mk.injEq] at hR
  rcases hv c h0 h1 with ⟨e, hh⟩ | ⟨u, e, hh, ha⟩
  · rw [hh, e]
    rw [atKey_of_not_has hh] at hR
    have hv0 : v = zeroReg := by have := hR.1; injection this
    subst hv0
    simp only [Option.getD_none, Option.isSome_none]
  · rw [hh, e]
    rw [ha] at hR
    have hv0 : v = u := by have := hR.1; injection this
    subst hv0
    simp only [Option.getD_some, Option.isSome_some]

theorem MapAt.of_put {w w' : World} {b n : Nat} {M : Int → Option Value} {D : DataW Value} (hD : w.ownsMap Try.prog 5 rawE b n D) (hv : ∀ c, 0 ≤ c → c ≤ 255 → (M c = none ∧ Maps.has D (.int .u8 c) = false) ∨ (∃ v, M c = some v ∧ Maps.has D (.int .u8 c) = true ∧ ∀ z, D.atKey (.int .u8 c) z = .held v))
    {k : Int} {v : Value} {n' : Nat} (h' : w'.ownsMap Try.prog 5 rawE b n' (D.put (.int .u8 k) (.held v))) : MapAt w' b n' (setM M k (some v)) := by
  refine ⟨_, h', fun c c0 c1 => ?_⟩
  by_cases hc : c = k
  · subst hc
    refine .inr ⟨v, by simp [setM], has_put_same hD.isMap (by trivial) _, fun z => atKey_put_same hD.isMap (by trivial) _ z⟩
  · have hne : (Lit.int .u8 c) ≠ .int .u8 k := by intro e; injection e with _ e; exact hc e
    have hs : setM M k (some v) c = M c := by simp [setM, hc]
    rw [hs, has_put_other hne]
    rcases hv c c0 c1 with h | ⟨u, e, hh, ha⟩
    · exact .inl h
    · exact .inr ⟨u, e, hh, fun z => by rw [atKey_put_other hne]; exact ha z⟩

theorem MapAt.store {w : World} {b n : Nat} {M : Int → Option Value} (h : MapAt w b n M) (hn : n < maxLen) {k : Int} (h0 : 0 ≤ k) (h1 : k ≤ 255) (v : Value) :
    ∃ w', (Instr.mapUpdate 54 (.map (some b)) (.int .u8 k) v).run Try.prog w = .ok () w' ∧ MapAt w' b (n + 1) (setM M k (some v)) ∧ w.grownBy w' (some b) := by
  obtain ⟨D, hD, hv⟩ := h
  obtain ⟨w', hrun, h', hg⟩ := hD.update u8_keyed Try.underlying54 hn (u8_key h0 h1) (d := .held v) (ps := []) rfl
  exact ⟨w', hrun, MapAt.of_put hD hv h', hg⟩

theorem MapAt.drop {w : World} {b n : Nat} {M : Int → Option Value} (h : MapAt w b n M) {k : Int} (h0 : 0 ≤ k) (h1 : k ≤ 255) (ty : TypeId) :
    ∃ w', (Builtin.delete_ #[54, 5] ty #[.map (some b), .int .u8 k]).run Try.prog w = .ok (.tuple #[]) w' ∧ MapAt w' b n (setM M k none) ∧ w.grownBy w' (some b) := by
  obtain ⟨D, hD, hv⟩ := h
  obtain ⟨w', hrun, h', hg⟩ := hD.drop u8_keyed Try.underlying54 (u8_key h0 h1) ty
  refine ⟨w', hrun, ⟨_, h', fun c c0 c1 => ?_⟩, hg.grown⟩
  by_cases hc : c = k
  · subst hc
    exact .inl ⟨by simp [setM], has_del_same⟩
  · have hne : (Lit.int .u8 c) ≠ .int .u8 k := by intro e; injection e with _ e; exact hc e
    have hs : setM M k none c = M c := by simp [setM, hc]
    rw [hs, has_del_other hne]
    rcases hv c c0 c1 with h | ⟨u, e, hh, ha⟩
    · exact .inl h
    · exact .inr ⟨u, e, hh, fun z => by rw [atKey_del_other hne]; exact ha z⟩

/-- The tuple's entry, then its store: together a store. -/
theorem entry_store {H : Type} {P : Program} {w : World} {t k e : TypeId} {R : Value → Option (DataW H × List MemPlace)} {b : Nat} {es : Array MapEntry} {clock : Nat} (K : Keyed P k) (ht : P.underlying t = some (.map k e)) {z : Value} (hz : ∀ u : World, (zeroValue e).run P u = .ok z u) (hb : w.heap[b]? = some (.map es clock)) (F : Fit P k R es clock)
    {key : Value} {kl : Lit} (hkey : keyOf P k key = some kl) :
    ∃ (v0 : Value) (st : Nat) (es1 : Array MapEntry) (clock1 : Nat), (Instr.mapEntry t (.map (some b)) key).run P w = .ok (.tuple #[v0, goInt st]) (setBlock w b (.map es1 clock1)) ∧
      ∀ (w2 : World) (val : Value), w2.heap[b]? = some (.map es1 clock1) → ∃ es' clock', (Instr.entryStore t (.map (some b)) (goInt st) val).run P w2 = .ok () (setBlock w2 b (.map es' clock')) ∧
        (Instr.mapUpdate t (.map (some b)) key val).run P w = .ok () (setBlock w b (.map es' clock')) := by
  obtain ⟨s1, s2, _⟩ := F.stamped
  rcases K.find w hkey es.toList F.keys with ⟨h1, h2⟩ | ⟨j, e0, h1, h2, h3⟩
  · refine ⟨z, clock, es.push ⟨key, z, clock⟩, clock + 1, ?_, fun w2 val hw2 => ⟨es.push ⟨key, val, clock⟩, clock + 1, ?_, ?_⟩⟩
    · simp [Instr.mapEntry, run_underlying ht, MapKept.run_getObj_map hb, K.check w false hkey, h1, hz, MapKept.run_setObj_map _ hb, Result.andThen, setBlock]
    · have hidx : (es.push ⟨key, z, clock⟩).findIdx? (fun e => ((e.born : Nat) : Int) == ((clock : Nat) : Int)) = some es.size := by
        rw [WideElems.findIdx_arr]
        have := WideElems.findIdx_born (l := (es.push ⟨key, z, clock⟩).toList) (j := es.size) (e0 := ⟨key, z, clock⟩) (by
          simp only [Array.toList_push, List.map_append, List.map_cons, List.map_nil]
          refine List.nodup_append.2 ⟨s2, by simp, fun a ha c hc e1 => ?_⟩
          simp only [List.mem_singleton] at hc
          obtain ⟨x, hx, rfl⟩ := List.mem_map.1 ha
          have := s1 x hx
          omega) (by simp)
        exact this
      have hmod : (es.push ⟨key, z, clock⟩).modify es.size (fun e => { e with val := val }) = es.push ⟨key, val, clock⟩ := by
        apply Array.ext'
        rw [Array.toList_modify, Array.toList_push, Array.toList_push, ← Array.length_toList, WideElems.modify_last]
      simp [Instr.entryStore, MapKept.run_getObj_map hw2, asInt, asIntOf, goInt, hidx, hmod, MapKept.run_setObj_map _ hw2, Result.andThen, setBlock]
    · simp [Instr.mapUpdate, run_underlying ht, MapKept.run_getObj_map hb, K.check w false hkey, h1, MapKept.run_setObj_map _ hb, Result.andThen, setBlock]
  · have hj : es[j]? = some e0 := by simpa using h2
    have hsame : es.modify j (fun e => { e with key := key }) = es := by
      apply Array.ext'
      rw [Array.toList_modify, modify_eq_set _ _ _ _ h2]
      have : ({ e0 with key := key } : MapEntry) = e0 := by rw [← h3]
      rw [this]
      exact WideElems.set_self _ _ _ h2
    refine ⟨e0.val, e0.born, es, clock, ?_, fun w2 val hw2 => ⟨es.modify j (fun e' => { e' with key := key, val := val }), clock, ?_, ?_⟩⟩
    · simp [Instr.mapEntry, run_underlying ht, MapKept.run_getObj_map hb, K.check w false hkey, h1, hj, h3, K.stays w hkey, hsame, MapKept.run_setObj_map _ hb, Result.andThen, setBlock]
    · have hidx : es.findIdx? (fun e => ((e.born : Nat) : Int) == ((e0.born : Nat) : Int)) = some j := by
        rw [WideElems.findIdx_arr]
        exact WideElems.findIdx_born s2 h2
      have hmod : es.modify j (fun e => { e with val := val }) = es.modify j (fun e' => { e' with key := key, val := val }) := by
        apply Array.ext'
        rw [Array.toList_modify, Array.toList_modify, modify_eq_set _ _ _ _ h2, modify_eq_set _ _ _ _ h2, ← h3]
      simp [Instr.entryStore, MapKept.run_getObj_map hw2, asInt, asIntOf, goInt, hidx, hmod, MapKept.run_setObj_map _ hw2, Result.andThen, setBlock]
    · simp [Instr.mapUpdate, run_underlying ht, MapKept.run_getObj_map hb, K.check w false hkey, h1, hj, h3, K.stays w hkey, MapKept.run_setObj_map _ hb, Result.andThen, setBlock]

theorem MapAt.entry {w : World} {b n : Nat} {M : Int → Option Value} (h : MapAt w b n M) (hn : n < maxLen) {k : Int} (h0 : 0 ≤ k) (h1 : k ≤ 255) :
    ∃ (v0 : Value) (st : Nat) (w1 : World), (Instr.mapEntry 54 (.map (some b)) (.int .u8 k)).run Try.prog w = .ok (.tuple #[v0, goInt st]) w1 ∧ w.grownBy w1 (some b) ∧
      ∀ val, ∃ w2, (Instr.entryStore 54 (.map (some b)) (goInt st) val).run Try.prog w1 = .ok () w2 ∧ MapAt w2 b (n + 1) (setM M k (some val)) ∧ w.grownBy w2 (some b) := by
  obtain ⟨D, hD, hv⟩ := h
  have hD' := hD
  obtain ⟨es, clock, hb, F, hs, hd⟩ := hD'
  obtain ⟨v0, st, es1, clock1, hrun, hst⟩ := entry_store u8_keyed Try.underlying54 zero_reg hb F (u8_key h0 h1)
  refine ⟨v0, st, _, hrun, ⟨rfl, rfl, rfl, by simp [setBlock], fun i _ hi => heap_setBlock_other hb _ (fun e => hi (by rw [e]))⟩, fun val => ?_⟩
  obtain ⟨es', clock', hr2, hr3⟩ := hst (setBlock w b (.map es1 clock1)) val (heap_setBlock_same hb _)
  obtain ⟨w', hrun', h', hg⟩ := hD.update u8_keyed Try.underlying54 hn (u8_key h0 h1) (d := .held val) (ps := []) rfl
  rw [hr3] at hrun'
  have e : w' = setBlock (setBlock w b (.map es1 clock1)) b (.map es' clock') := by
    have e := (Result.ok.inj hrun').2
    rw [← e]
    unfold setBlock
    simp only [Array.setIfInBounds_setIfInBounds]
  exact ⟨w', by rw [e]; exact hr2, MapAt.of_put hD hv h', hg⟩
end Go.Proofs.Ytlhcojclfgbobaa
