/- Contracts of the writer of package expand. -/
import Derived.Test.YtalgdihaeglleaaExpDef
import Derived.Test.YtalgdihaeglleaaKind
import Derived.Laws.EntriesVeiled
import Derived.Deep.AppendLies
namespace Go.Proofs.Ytalgdihaeglleaa
open Go.RowKit

/-- How the next byte, or all, is said: a function value. -/
def modeV : Option Bool → Value
  | none => .nilFunc
  | some true => .func (.func 19) #[] #[]
  | some false => .func (.func 20) #[] #[]

theorem neq_cfunc (f : Fn) (a b : Array Value) (w : World) : (Go.binOp .neq 40 (.func f a b) .nilFunc).run Try.prog w = .ok (.bool true) w := by
  kernel_rfl
theorem neq_cnil (w : World) : (Go.binOp .neq 40 .nilFunc .nilFunc).run Try.prog w = .ok (.bool false) w := by
  kernel_rfl
attribute [local go_sem] neq_cfunc neq_cnil

/-- A writer in block b: its lines lie in the row of dv, its line in that of lv. -/
structure WrAt (w : World) (b : Nat) (dv lv : Value) (x : Wr) : Prop where
  blk : w.heap[b]? = some (.cells #[dv, lv, modeV x.next, modeV x.all] 42 (0, 0))
  hd : w.ownsRow 0 9 1 dv x.done.length (strsV x.done)
  hl : w.ownsRow 0 5 1 lv x.line.length (bytesV x.line)
  nd : dv.ownBlock ≠ some b
  nl : lv.ownBlock ≠ some b
  nn : ∀ g, dv.ownBlock = some g → lv.ownBlock ≠ some g

theorem info_u8 : (Try.prog.info? 5).map (fun i => (i.zero, i.size, i.bytes)) = some (some (.int .u8 0), 1, 1) := by kernel_rfl

/-- Behind laying bytes. -/
def LayPost (w : World) (b : Nat) (dv lv : Value) (y : Wr) (e : Ending) (w' : World) : Prop :=
  e = .returned (.tuple #[]) ∧ ∃ lv', WrAt w' b dv lv' y ∧ Upd (fun k => k = b ∨ lv.ownBlock = some k) w w' ∧ (∀ g, lv'.ownBlock = some g → lv.ownBlock = some g ∨ w.heap.size ≤ g)

theorem put_blk {wr w1 : World} {b : Nat} {dv lv m0 m1 : Value} {o : Obj} (hb : wr.heap[b]? = some (.cells #[dv, lv, m0, m1] 42 (0, 0))) (nl : lv.ownBlock ≠ some b)
    (hg : ((wr.setCell ⟨b, 2, none⟩ .nilFunc).alloc o).grownBy w1 lv.ownBlock) : w1.heap[b]? = some (.cells #[dv, lv, .nilFunc, m1] 42 (0, 0)) := by
  have hblt := heap_lt hb
  have hsz : ((wr.setCell ⟨b, 2, none⟩ .nilFunc).alloc o).heap.size = wr.heap.size + 1 := by simp [World.setCell]
  rw [hg.block b (by rw [hsz]; omega) (fun e => nl e.symm), Below.heap_alloc _ _ _ (by simp [World.setCell]; omega), heap_set hb]
  rfl

theorem put_close {wr w1 : World} {b : Nat} {dv lv : Value} {y : Wr} {c : UInt8} {o : Obj} {g cap : Nat} (hW : WrAt wr b dv lv y)
    (hown : w1.ownsRow 0 5 1 (.slice (some ⟨g, 0, none⟩) (y.line.length + 1) cap) (y.line.length + 1) (bytesV y.line ++ [.int .u8 (caseI y.how c.toNat)]))
    (hg : ((wr.setCell ⟨b, 2, none⟩ .nilFunc).alloc o).grownBy w1 lv.ownBlock) (hat : lv.ownBlock = some g ∨ g = ((wr.setCell ⟨b, 2, none⟩ .nilFunc).alloc o).heap.size) :
    WrAt (w1.setCell ⟨b, 1, none⟩ (.slice (some ⟨g, 0, none⟩) (y.line.length + 1) cap)) b dv (.slice (some ⟨g, 0, none⟩) (y.line.length + 1) cap) (y.put c) ∧
      Upd (fun k => k = b ∨ lv.ownBlock = some k) wr (w1.setCell ⟨b, 1, none⟩ (.slice (some ⟨g, 0, none⟩) (y.line.length + 1) cap)) := by
  obtain ⟨hb, hd, hl, nd, nl, nn⟩ := hW
  have hblt := heap_lt hb
  have hsz : ((wr.setCell ⟨b, 2, none⟩ .nilFunc).alloc o).heap.size = wr.heap.size + 1 := by simp [World.setCell]
  rw [hsz] at hat
  have hgb : g ≠ b := by
    rcases hat with h | h
    · intro e; exact nl (by rw [h, e])
    · omega
  have u1 : Upd (fun k => k = b ∨ lv.ownBlock = some k) wr ((wr.setCell ⟨b, 2, none⟩ .nilFunc).alloc o) := ((Upd.refl _ _).setCell (fun _ => .inl rfl) _).alloc _
  have u2 : Upd (fun k => k = b ∨ lv.ownBlock = some k) wr w1 := u1.grown hg (fun k _ hk => .inr hk)
  have hb1 := put_blk hb nl hg
  refine ⟨⟨?_, ?_, ?_, nd, ?_, ?_⟩, u2.setCell (fun _ => .inl rfl) _⟩
  · rw [heap_set hb1]; rfl
  · refine ownsRow_set ?_ nd _
    exact ownsRow_upd hd u2 (fun k hk h => by
      rcases h with h | h
      · exact nd (by rw [hk, h])
      · exact nn k hk h)
  · have e : (y.put c).line.length = y.line.length + 1 := by simp [Wr.put]
    have e2 : bytesV (y.put c).line = bytesV y.line ++ [.int .u8 (caseI y.how c.toNat)] := by
      simp only [Wr.put, bytesV, List.map_append, List.map_cons, List.map_nil, byteV, caseU_val]
    rw [e, e2]
    exact ownsRow_set hown (by simp [Value.ownBlock]; exact hgb) _
  · simp [Value.ownBlock]; exact hgb
  · intro k hk e
    simp [Value.ownBlock] at e
    subst e
    rcases hat with h | h
    · exact nn g hk h
    · have := ownsRow_lt hd hk; omega

/-- The end of a round: the relation of the loop anew. -/
theorem put_rel {w wr w2 : World} {b : Nat} {lv lv' lv2 : Value} (hU : Upd (fun k => k = b ∨ lv.ownBlock = some k) w wr) (hN : ∀ g, lv'.ownBlock = some g → lv.ownBlock = some g ∨ w.heap.size ≤ g)
    (h2 : Upd (fun k => k = b ∨ lv'.ownBlock = some k) wr w2) (hat : ∀ g, lv2.ownBlock = some g → lv'.ownBlock = some g ∨ wr.heap.size ≤ g) :
    Upd (fun k => k = b ∨ lv.ownBlock = some k) w w2 ∧ (∀ g, lv2.ownBlock = some g → lv.ownBlock = some g ∨ w.heap.size ≤ g) := by
  refine ⟨hU.then h2 (fun i hi h => ?_), fun g hg => ?_⟩
  · rcases h with h | h
    · exact .inl h
    · rcases hN i h with h' | h'
      · exact .inr h'
      · omega
  · rcases hat g hg with h | h
    · exact hN g h
    · have := hU.size; omega

set_option maxRecDepth 100000 in
set_option maxHeartbeats 4000000 in
theorem lay_any (b : Nat) (dv lv : Value) (x : Wr) (s : ByteArray) (w : World) (h : WrAt w b dv lv x) (hlen : x.line.length + s.size ≤ 1000000000) :
    Calls Try.prog 13 #[.pointer (some ⟨b, 0, none⟩), .string s] w (LayPost w b dv lv (x.lay s.data.toList)) := by
  obtain ⟨i0, hi, hz0, hz1, hz2⟩ := info_parts info_u8
  go_enter Try.func13, Try.ntmps13
  go_wp2
  go_loopw [8] (fun i wr => ∃ (k : Nat) (lv' : Value), k ≤ s.size ∧ i = .int .i64 k ∧ WrAt wr b dv lv' (x.lay (s.data.toList.take k)) ∧ Upd (fun k => k = b ∨ lv.ownBlock = some k) w wr ∧ (∀ g, lv'.ownBlock = some g → lv.ownBlock = some g ∨ w.heap.size ≤ g)) (fun i _ => s.size - (intOf i).toNat)
  case atStart => exact ⟨0, lv, by omega, rfl, by simpa [Wr.lay] using h, Upd.refl _ _, fun g hg => .inl hg⟩
  case round =>
    obtain ⟨k, lv', hk, rfl, hW, hU, hN⟩ := hrel
    by_cases hlt : k < s.size
    · have Hs := Lib.hid (Wr.lay_snoc x (s.data.toList.take k) s[k])
      have Ht := Lib.hid (take_snoc s k hlt)
      have hll := Wr.lay_line x (s.data.toList.take k)
      have htk : (s.data.toList.take k).length ≤ k := List.length_take_le _ _
      obtain ⟨y, hy⟩ : ∃ y, x.lay (s.data.toList.take k) = y := ⟨_, rfl⟩
      rw [hy] at hW Hs hll
      clear hy
      have HW := Lib.hid hW
      have HU := Lib.hid hU
      have HN := Lib.hid hN
      clear hU hN
      obtain ⟨hb, hd, hl, nd, nl, nn⟩ := hW
      have hsz : y.line.length ≤ 1000000000 := by omega
      clear hll htk
      have Hhow := Lib.hid (show y.how = (match y.next with | some m => some m | none => y.all) from rfl)
      have c1 := cell_of hb 1 (v := lv') rfl
      have c2 := cell_of hb 2 (v := modeV y.next) rfl
      have c3 := cell_of hb 3 (v := modeV y.all) rfl
      have f1 := free_of hb 1
      have f2 := free_of hb 2
      have Hb := Lib.hid hb; clear hb
      have Hd := Lib.hid hd; clear hd
      have Hl := Lib.hid hl; clear hl
      have Nl := Lib.hid nl; clear nl
      have Nn := Lib.hid nn; clear nn nd
      have hcr := byte_rng s[k]
      have hc0 := hcr.1
      have hc1 := hcr.2
      clear hcr
      cases hnx : y.next with
      | some m =>
        rw [hnx] at c2
        clear c3
        cases m
        · simp only [modeV] at c2
          go_wp2_with (first | (go_at_call 20; refine (Small_any _ (by assumption) (by assumption) _).mono ?_; rintro e w' ⟨rfl, rfl⟩) | (go_at_call 19; refine (Great_any _ (by assumption) (by assumption) _).mono ?_; rintro e w' ⟨rfl, rfl⟩) | (at_builtin; refine wpList_append_lies _ rfl _ _ 37 rfl 0 5 i0 (.int .u8 0) 1 1 Try.underlying37 hi hz0 hz1 hz2 rfl (by decide) lv' y.line.length (bytesV y.line) rfl ((ownsRow_set Hl.out Nl.out _).alloc _) ⟨wr.heap.size, 0, none⟩ 1 1 [.int .u8 (smallI s[k].toNat)] rfl rfl (cell_one_at _ _ (by simp [World.setCell])) (by simp [Value.oneCell']) (by omega) (by unfold maxLen; omega) (by omega) (Nat.zero_le _) _ rfl ?_; intro g cap w1 hown hgrow hat hlt1; have hb1 := put_blk Hb.out Nl.out hgrow; have d1 := cell_of hb1 1 (v := lv') rfl; have e1 := free_of hb1 1; clear hb1))
          have hh : y.how = some false := by rw [Hhow.out, hnx]
          have hp := put_close (c := s[k]) HW.out (by rw [hh]; exact hown) hgrow hat
          have hr := put_rel (lv2 := .slice (some ⟨g, 0, none⟩) (y.line.length + 1) cap) HU.out HN.out hp.2 (fun j hj => by
            simp only [Value.ownBlock, Option.some.injEq] at hj
            subst hj
            rcases hat with h | h
            · exact .inl h
            · right; simp [World.setCell] at h; omega)
          go_roundw
          case rel => exact ⟨k + 1, _, by omega, by go_num, by rw [Ht.out, Hs.out]; exact hp.1, hr.1, hr.2⟩
          case measure => simp [intOf]; omega
        · simp only [modeV] at c2
          go_wp2_with (first | (go_at_call 20; refine (Small_any _ (by assumption) (by assumption) _).mono ?_; rintro e w' ⟨rfl, rfl⟩) | (go_at_call 19; refine (Great_any _ (by assumption) (by assumption) _).mono ?_; rintro e w' ⟨rfl, rfl⟩) | (at_builtin; refine wpList_append_lies _ rfl _ _ 37 rfl 0 5 i0 (.int .u8 0) 1 1 Try.underlying37 hi hz0 hz1 hz2 rfl (by decide) lv' y.line.length (bytesV y.line) rfl ((ownsRow_set Hl.out Nl.out _).alloc _) ⟨wr.heap.size, 0, none⟩ 1 1 [.int .u8 (greatI s[k].toNat)] rfl rfl (cell_one_at _ _ (by simp [World.setCell])) (by simp [Value.oneCell']) (by omega) (by unfold maxLen; omega) (by omega) (Nat.zero_le _) _ rfl ?_; intro g cap w1 hown hgrow hat hlt1; have hb1 := put_blk Hb.out Nl.out hgrow; have d1 := cell_of hb1 1 (v := lv') rfl; have e1 := free_of hb1 1; clear hb1))
          have hh : y.how = some true := by rw [Hhow.out, hnx]
          have hp := put_close (c := s[k]) HW.out (by rw [hh]; exact hown) hgrow hat
          have hr := put_rel (lv2 := .slice (some ⟨g, 0, none⟩) (y.line.length + 1) cap) HU.out HN.out hp.2 (fun j hj => by
            simp only [Value.ownBlock, Option.some.injEq] at hj
            subst hj
            rcases hat with h | h
            · exact .inl h
            · right; simp [World.setCell] at h; omega)
          go_roundw
          case rel => exact ⟨k + 1, _, by omega, by go_num, by rw [Ht.out, Hs.out]; exact hp.1, hr.1, hr.2⟩
          case measure => simp [intOf]; omega
      | none =>
        rw [hnx] at c2
        simp only [modeV] at c2
        cases hal : y.all with
        | none =>
          rw [hal] at c3
          simp only [modeV] at c3
          go_wp2_with (first | (go_at_call 20; refine (Small_any _ (by assumption) (by assumption) _).mono ?_; rintro e w' ⟨rfl, rfl⟩) | (go_at_call 19; refine (Great_any _ (by assumption) (by assumption) _).mono ?_; rintro e w' ⟨rfl, rfl⟩) | (at_builtin; refine wpList_append_lies _ rfl _ _ 37 rfl 0 5 i0 (.int .u8 0) 1 1 Try.underlying37 hi hz0 hz1 hz2 rfl (by decide) lv' y.line.length (bytesV y.line) rfl ((ownsRow_set Hl.out Nl.out _).alloc _) ⟨wr.heap.size, 0, none⟩ 1 1 [.int .u8 (s[k].toNat)] rfl rfl (cell_one_at _ _ (by simp [World.setCell])) (by simp [Value.oneCell']) (by omega) (by unfold maxLen; omega) (by omega) (Nat.zero_le _) _ rfl ?_; intro g cap w1 hown hgrow hat hlt1; have hb1 := put_blk Hb.out Nl.out hgrow; have d1 := cell_of hb1 1 (v := lv') rfl; have e1 := free_of hb1 1; clear hb1))
          have hh : y.how = none := by rw [Hhow.out, hnx]; (try exact hal)
          have hp := put_close (c := s[k]) HW.out (by rw [hh]; exact hown) hgrow hat
          have hr := put_rel (lv2 := .slice (some ⟨g, 0, none⟩) (y.line.length + 1) cap) HU.out HN.out hp.2 (fun j hj => by
            simp only [Value.ownBlock, Option.some.injEq] at hj
            subst hj
            rcases hat with h | h
            · exact .inl h
            · right; simp [World.setCell] at h; omega)
          go_roundw
          case rel => exact ⟨k + 1, _, by omega, by go_num, by rw [Ht.out, Hs.out]; exact hp.1, hr.1, hr.2⟩
          case measure => simp [intOf]; omega
        | some m =>
          rw [hal] at c3
          cases m
          · simp only [modeV] at c3
            go_wp2_with (first | (go_at_call 20; refine (Small_any _ (by assumption) (by assumption) _).mono ?_; rintro e w' ⟨rfl, rfl⟩) | (go_at_call 19; refine (Great_any _ (by assumption) (by assumption) _).mono ?_; rintro e w' ⟨rfl, rfl⟩) | (at_builtin; refine wpList_append_lies _ rfl _ _ 37 rfl 0 5 i0 (.int .u8 0) 1 1 Try.underlying37 hi hz0 hz1 hz2 rfl (by decide) lv' y.line.length (bytesV y.line) rfl ((ownsRow_set Hl.out Nl.out _).alloc _) ⟨wr.heap.size, 0, none⟩ 1 1 [.int .u8 (smallI s[k].toNat)] rfl rfl (cell_one_at _ _ (by simp [World.setCell])) (by simp [Value.oneCell']) (by omega) (by unfold maxLen; omega) (by omega) (Nat.zero_le _) _ rfl ?_; intro g cap w1 hown hgrow hat hlt1; have hb1 := put_blk Hb.out Nl.out hgrow; have d1 := cell_of hb1 1 (v := lv') rfl; have e1 := free_of hb1 1; clear hb1))
            have hh : y.how = some false := by rw [Hhow.out, hnx]; (try exact hal)
            have hp := put_close (c := s[k]) HW.out (by rw [hh]; exact hown) hgrow hat
            have hr := put_rel (lv2 := .slice (some ⟨g, 0, none⟩) (y.line.length + 1) cap) HU.out HN.out hp.2 (fun j hj => by
              simp only [Value.ownBlock, Option.some.injEq] at hj
              subst hj
              rcases hat with h | h
              · exact .inl h
              · right; simp [World.setCell] at h; omega)
            go_roundw
            case rel => exact ⟨k + 1, _, by omega, by go_num, by rw [Ht.out, Hs.out]; exact hp.1, hr.1, hr.2⟩
            case measure => simp [intOf]; omega
          · simp only [modeV] at c3
            go_wp2_with (first | (go_at_call 20; refine (Small_any _ (by assumption) (by assumption) _).mono ?_; rintro e w' ⟨rfl, rfl⟩) | (go_at_call 19; refine (Great_any _ (by assumption) (by assumption) _).mono ?_; rintro e w' ⟨rfl, rfl⟩) | (at_builtin; refine wpList_append_lies _ rfl _ _ 37 rfl 0 5 i0 (.int .u8 0) 1 1 Try.underlying37 hi hz0 hz1 hz2 rfl (by decide) lv' y.line.length (bytesV y.line) rfl ((ownsRow_set Hl.out Nl.out _).alloc _) ⟨wr.heap.size, 0, none⟩ 1 1 [.int .u8 (greatI s[k].toNat)] rfl rfl (cell_one_at _ _ (by simp [World.setCell])) (by simp [Value.oneCell']) (by omega) (by unfold maxLen; omega) (by omega) (Nat.zero_le _) _ rfl ?_; intro g cap w1 hown hgrow hat hlt1; have hb1 := put_blk Hb.out Nl.out hgrow; have d1 := cell_of hb1 1 (v := lv') rfl; have e1 := free_of hb1 1; clear hb1))
            have hh : y.how = some true := by rw [Hhow.out, hnx]; (try exact hal)
            have hp := put_close (c := s[k]) HW.out (by rw [hh]; exact hown) hgrow hat
            have hr := put_rel (lv2 := .slice (some ⟨g, 0, none⟩) (y.line.length + 1) cap) HU.out HN.out hp.2 (fun j hj => by
              simp only [Value.ownBlock, Option.some.injEq] at hj
              subst hj
              rcases hat with h | h
              · exact .inl h
              · right; simp [World.setCell] at h; omega)
            go_roundw
            case rel => exact ⟨k + 1, _, by omega, by go_num, by rw [Ht.out, Hs.out]; exact hp.1, hr.1, hr.2⟩
            case measure => simp [intOf]; omega
    · have hk2 : k = s.size := by omega
      subst hk2
      go_wp2
      go_end0
      refine ⟨rfl, lv', ?_, hU, hN⟩
      rw [List.take_of_length_le (by simp)] at hW
      exact hW
end Go.Proofs.Ytalgdihaeglleaa
