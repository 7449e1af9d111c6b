/- What the laws of expand share: pieces laid in memory; more than is looked at; the chapter's example. -/
import Derived.Test.YtalgdihaeglleaaExpT
import Derived.Test.YtalgdihaeglleaaStrs
namespace Go.Proofs.Ytalgdihaeglleaa
open Go.RowKit

def Tm.cells (t : Tm) : List Value := [.int .u8 t.kind, .string t.text, .int .i64 t.n, .int .u8 t.c]
def tmCells (ts : List Tm) : List Value := ts.flatMap Tm.cells

theorem tmCells_length (ts : List Tm) : (tmCells ts).length = ts.length * 4 := by
  induction ts with
  | nil => rfl
  | cons t ts ih => simp only [tmCells, List.flatMap_cons, List.length_append, List.length_cons] at ih ⊢; rw [ih]; simp [Tm.cells]; omega
theorem tmCells_get : ∀ (ts : List Tm) (i : Nat) (h : i < ts.length), (tmCells ts)[i * 4]? = some (.int .u8 ts[i].kind) ∧ (tmCells ts)[i * 4 + 1]? = some (.string ts[i].text) ∧ (tmCells ts)[i * 4 + 2]? = some (.int .i64 ts[i].n) ∧ (tmCells ts)[i * 4 + 3]? = some (.int .u8 ts[i].c)
  | t :: ts, 0, _ => ⟨rfl, rfl, rfl, rfl⟩
  | t :: ts, i + 1, h => by
    have ih := tmCells_get ts i (by simpa using h)
    have e : tmCells (t :: ts) = Tm.cells t ++ tmCells ts := rfl
    have hl : (Tm.cells t).length = 4 := rfl
    simp only [List.getElem_cons_succ]
    rw [e, List.getElem?_append_right (by omega), List.getElem?_append_right (by omega), List.getElem?_append_right (by omega), List.getElem?_append_right (by omega), hl]
    rw [show (i + 1) * 4 - 4 = i * 4 by omega, show (i + 1) * 4 + 1 - 4 = i * 4 + 1 by omega, show (i + 1) * 4 + 2 - 4 = i * 4 + 2 by omega, show (i + 1) * 4 + 3 - 4 = i * 4 + 3 by omega]
    exact ih

theorem TmsAt.of_block {w : World} {b : Nat} {ts : List Tm} {T : TypeId} {fr : Nat × Nat} {cs : Array Value} (h : w.heap[b]? = some (.cells cs T fr)) (hc : cs = (tmCells ts).toArray) : TmsAt w (some ⟨b, 0, none⟩) ts := by
  subst hc
  intro i hi
  obtain ⟨h0, h1, h2, h3⟩ := tmCells_get ts i hi
  refine ⟨b, 0, rfl, ?_, ?_, ?_, ?_⟩
  all_goals simp only [World.cell?, h, Nat.zero_add]
  · simpa using h0
  · simpa using h1
  · simpa using h2
  · simpa using h3

theorem TmsAt.of_owns {w : World} {base n : Nat} {e : TypeId} {v : Value} {ts : List Tm} (h : w.ownsRow base e 4 v n (tmCells ts)) : ∃ a cap, v = tmsV a ts.length cap ∧ TmsAt w a ts := by
  have hl : ts.length = n := by have := h.1; rw [tmCells_length] at this; omega
  subst hl
  rcases h.2 with ⟨rfl, h0⟩ | ⟨g, cap, cur, rfl, _, hb, hnc, _, hsz, htk⟩
  · exact ⟨none, 0, by rw [h0]; rfl, fun i hi => by omega⟩
  · refine ⟨_, cap, rfl, fun i hi => ?_⟩
    obtain ⟨h0, h1, h2, h3⟩ := tmCells_get ts i hi
    rw [← htk, List.getElem?_take_of_lt (by omega)] at h0 h1 h2 h3
    refine ⟨g, 0, rfl, ?_, ?_, ?_, ?_⟩
    all_goals simp only [World.cell?, hb, Nat.zero_add]
    · simpa using h0
    · simpa using h1
    · simpa using h2
    · simpa using h3

def total (ts : List Tm) (s : ByteArray) : Nat := ts.foldl (fun n t => n + t.text.size) s.size
def heavyB (ts : List Tm) (s : ByteArray) : Bool := decide (40 < ts.length) || decide (1000 < total ts s)
theorem total_snoc (ts : List Tm) (t : Tm) (s : ByteArray) : total (ts ++ [t]) s = total ts s + t.text.size := by simp [total, List.foldl_append]
theorem foldl_ge (ts : List Tm) : ∀ n, n ≤ ts.foldl (fun n t => n + t.text.size) n ∧ ∀ t ∈ ts, t.text.size ≤ ts.foldl (fun n t => n + t.text.size) n := by
  induction ts with
  | nil => intro n; simp
  | cons t ts ih =>
    intro n
    simp only [List.foldl_cons]
    have h := ih (n + t.text.size)
    refine ⟨by omega, fun u hu => ?_⟩
    rcases List.mem_cons.1 hu with rfl | hu
    · omega
    · exact h.2 u hu
theorem heavy_not {ts : List Tm} {s : ByteArray} (h : heavyB ts s = false) : ts.length ≤ 40 ∧ s.size ≤ 1000 ∧ ∀ t ∈ ts, t.text.size ≤ 1000 := by
  simp only [heavyB, Bool.or_eq_false_iff, decide_eq_false_iff_not, Nat.not_lt] at h
  have h2 := foldl_ge ts s.size
  refine ⟨h.1, ?_, fun t ht => ?_⟩
  · have := h2.1; unfold total at h; omega
  · have := h2.2 t ht; unfold total at h; omega

theorem total_take (ts : List Tm) (s : ByteArray) (k : Nat) : total (ts.take k) s ≤ total ts s := by
  have h : total ts s = (ts.drop k).foldl (fun n t => n + t.text.size) (total (ts.take k) s) := by
    unfold total
    rw [← List.foldl_append, List.take_append_drop]
  rw [h]
  exact (foldl_ge _ _).1

set_option maxHeartbeats 1000000 in
theorem heavy_any (a : Option Addr) (cp : Nat) (ts : List Tm) (s : ByteArray) (w : World) (ht : TmsAt w a ts) (hb : total ts s ≤ 10000000000000000) (hn : ts.length ≤ 10000000000000000) :
    Calls Try.prog 10 #[tmsV a ts.length cp, .string s] w fun e w' => e = .returned (.bool (heavyB ts s)) ∧ w = w' := by
  unfold tmsV
  have Hh : Hid (heavyB ts s = (decide (40 < (ts.length : Int)) || decide ((1000 : Int) < (total ts s : Int)))) := Lib.hid (by
    simp only [heavyB]
    congr 1 <;> (apply decide_eq_decide.2; omega))
  have hs : s.size ≤ 10000000000000000 := by
    have := (foldl_ge ts s.size).1
    unfold total at hb
    omega
  go_enter Try.func10, Try.ntmps10
  go_wp2
  go_loop [5, 6] (fun m i => ∃ (k : Nat), k ≤ ts.length ∧ i = .int .i64 k ∧ m = .int .i64 (total (ts.take k) s)) (fun m i => ts.length - (intOf i).toNat)
  case atStart => exact ⟨0, by omega, rfl, by simp [total]⟩
  case round =>
    obtain ⟨k, hk, rfl, rfl⟩ := hrel
    by_cases hlt : k < ts.length
    · obtain ⟨b, o, rfl, e0, e1, e2, e3⟩ := ht k hlt
      have Hs : Hid (total (ts.take (k + 1)) s = total (ts.take k) s + ts[k].text.size) := Lib.hid (by rw [List.take_succ_eq_append_getElem hlt, total_snoc])
      have h3 : total (ts.take k) s + ts[k].text.size ≤ 10000000000000000 := by
        rw [← Hs.out]
        exact Nat.le_trans (total_take ts s (k + 1)) hb
      clear e0 e2 e3 hb ht
      generalize total (ts.take k) s = m at *
      generalize ts[k].text = tt at *
      go_wp2
      go_round
      case rel => exact ⟨k + 1, by omega, by go_num, by rw [Hs.out]; go_num⟩
      case measure => simp [intOf]; omega
    · obtain rfl : k = ts.length := by omega
      rw [List.take_length]
      clear ht
      generalize total ts s = m at *
      go_wp2
      all_goals go_ret
      all_goals refine ⟨ret_bool ?_, rfl⟩
      all_goals rw [Hh.out]
      all_goals (try simp_all)

set_option maxHeartbeats 1000000 in
/-- More than forty: whatever the sum comes to. -/
theorem heavy_big (a : Option Addr) (cp : Nat) (ts : List Tm) (s : ByteArray) (w : World) (ht : TmsAt w a ts) (hb : 40 < ts.length) (hn : ts.length ≤ maxLen) :
    Calls Try.prog 10 #[tmsV a ts.length cp, .string s] w fun e w' => e = .returned (.bool true) ∧ w = w' := by
  unfold tmsV
  unfold maxLen at hn
  go_enter Try.func10, Try.ntmps10
  go_wp2
  go_loop [5, 6] (fun m i => ∃ (k : Nat) (x : Int), k ≤ ts.length ∧ i = .int .i64 k ∧ m = .int .i64 x) (fun m i => ts.length - (intOf i).toNat)
  case atStart => exact ⟨0, _, by omega, rfl, rfl⟩
  case round =>
    obtain ⟨k, x, hk, rfl, rfl⟩ := hrel
    by_cases hlt : k < ts.length
    · obtain ⟨b, o, rfl, e0, e1, e2, e3⟩ := ht k hlt
      clear e0 e2 e3 hb ht
      generalize ts[k].text = tt at *
      go_wp2
      go_round
      case rel => exact ⟨k + 1, _, by omega, by go_num, rfl⟩
      case measure => simp [intOf]; omega
    · obtain rfl : k = ts.length := by omega
      clear ht
      have hb2 : (40 : Int) < ts.length := by omega
      go_wp2
      all_goals go_ret
      all_goals exact ⟨rfl, rfl⟩

theorem total_le (R : Nat) : ∀ (ts : List Tm) (n : Nat), (∀ t ∈ ts, t.text.size ≤ R) → ts.foldl (fun n t => n + t.text.size) n ≤ n + ts.length * R
  | [], n, _ => by simp
  | t :: ts, n, h => by
    have h1 := h t (by simp)
    have h2 := total_le R ts (n + t.text.size) (fun u hu => h u (by simp [hu]))
    simp only [List.foldl_cons, List.length_cons]
    have : (ts.length + 1) * R = ts.length * R + R := by rw [Nat.add_mul, Nat.one_mul]
    omega

theorem heavy_all (a : Option Addr) (cp : Nat) (ts : List Tm) (s : ByteArray) (w : World) (ht : TmsAt w a ts) (hn : ts.length ≤ maxLen) (hs : s.size ≤ 140737488351232) (hx : ∀ t ∈ ts, t.text.size ≤ 140737488351232) :
    Calls Try.prog 10 #[tmsV a ts.length cp, .string s] w fun e w' => e = .returned (.bool (heavyB ts s)) ∧ w = w' := by
  by_cases hb : 40 < ts.length
  · have e : heavyB ts s = true := by simp [heavyB, hb]
    rw [e]
    exact heavy_big a cp ts s w ht hb hn
  · have h := total_le _ ts s.size hx
    have h2 : ts.length * 140737488351232 ≤ 40 * 140737488351232 := Nat.mul_le_mul_right _ (by omega)
    exact heavy_any a cp ts s w ht (by unfold total; omega) (by omega)
end Go.Proofs.Ytalgdihaeglleaa
