/- Lemmas that the law's proof stands on, part 26: Cpd, Fin, Code, SndR. No condition. -/
import Derived.Test.YtigbfgmgdfnhcaaBaseA0
import Derived.Test.YtigbfgmgdfnhcaaBaseA2
import Derived.Test.YtigbfgmgdfnhcaaBaseA25
set_option linter.all false
set_option linter.unusedVariables false
set_option linter.unusedSimpArgs false
namespace Go.Proofs.Ytigbfgmgdfnhcaa
open Go.RowKit
theorem results_blk1 {P : Program} {fn : Func} {p : Tmp} {ty : TypeId} (h : fn.results = #[.cell p ty]) (tmps : Array Value) (w : World) (g : Nat) (t : TypeId) (cs : Array Value) (fr : Nat × Nat) (d : TypeDesc)
    (hp : tmps.getD p undef = .pointer (some ⟨g, 0, Option.none⟩)) (hg : w.heap[g]? = some (.cells cs t fr))
    (hu : P.underlying ty = some d) (hd : (match d with | .struct _ | .array _ _ => true | _ => false) = true) (hi : (P.info? ty).map (·.size) = some cs.size) :
    (results fn tmps).run P w = .ok (.agg cs) w := by
  have hr := run_loadVar_row w g t ty cs fr d hg hu hd hi
  simp only [results, h]
  have hp2 : tmps[p]?.getD undef = .pointer (some ⟨g, 0, Option.none⟩) := by simpa using hp
  simp [hp2, asAddr, hr, Result.andThen]
theorem PatAt.form {w : World} {nv : Value} {kvs : List Value} {ns : List NodeD} (h : PatAt w nv kvs ns) : ∃ a c, nv = .slice a ns.length c := by
  rcases h.own.2 with ⟨rfl, h0⟩ | ⟨g, cap, cur, rfl, _⟩
  · exact ⟨Option.none, 0, by rw [h0]⟩
  · exact ⟨_, cap, rfl⟩
theorem CodeAt.form {w : World} {cv : Value} {code : List InstD} (h : CodeAt w cv code) : ∃ a c, cv = .slice a code.length c := by
  rcases h.2 with ⟨rfl, h0⟩ | ⟨g, cap, cur, rfl, _⟩
  · exact ⟨Option.none, 0, by rw [h0]⟩
  · exact ⟨_, cap, rfl⟩
theorem PatAt.kid_lt {w : World} {nv : Value} {kvs : List Value} {ns : List NodeD} (h : PatAt w nv kvs ns) (v : Value) (hv : v ∈ kvs) (g : Nat) (hg : v.ownBlock = some g) : g < w.heap.size := by
  obtain ⟨i, hi, rfl⟩ := List.mem_iff_getElem.mp hv
  exact (h.kids i (by rw [h.len]; exact hi) hi).2 g hg
/-- A program as a value. -/
def CpdPost (w : World) (q : ProgD) (e : Ending) (w' : World) : Prop := ∃ cv, e = .returned (.agg (progC q cv)) ∧ CodeAt w' cv q.code ∧ Upd (fun _ => False) w w'
set_option maxRecDepth 100000 in
set_option maxHeartbeats 8000000 in
theorem compiled_any {w : World} (s : ByteArray) (fold : Bool) (q : ProgD) (hs0 : s.size ≤ 140737488351232) (hq : compiledF s.data.toList fold = some q) :
    Calls Try.prog 15 #[.string s, .bool fold] w (CpdPost w q) := by
  have hU0 := Upd.refl (fun _ => False) w
  have hz := Nat.le_refl w.heap.size
  have HS0 := Lib.hid hs0
  obtain ⟨p, er, pl, hp⟩ := parseF_some s.data.toList
  have HPA := Lib.hid (parse_any s · p er pl hs0 hp)
  unfold compiledF at hq
  rw [hp] at hq
  simp only [] at hq
  have HOK := Lib.hid (parseF_ok hp)
  obtain ⟨w0, hw0⟩ : ∃ w0, w0 = w := ⟨_, rfl⟩
  have HW0 := Lib.hid hw0
  clear hw0 hs0 hp
  by_cases he : er = 0
  · rw [if_neg (by simp [he])] at hq
    subst he
    obtain ⟨q2, e2, hc⟩ := compileF_some HOK.out.1 (HOK.out.2 rfl) fold
    rw [hc] at hq
    have e := Option.some.inj hq
    subst e
    have HC := Lib.hid hc
    clear hc hq
    go_enter Try.func15, Try.ntmps15
    go_wp2_with (first
      | (have _kk := HCD.out; ((with_reducible refine stopAl 31 rfl ?_); unfold Stop; refine wpList_alloc_blk rfl 31 rfl (.agg #[.slice none 0 0, .int .i64 0, .bool false]) (by kernel_rfl) #[.slice none 0 0, .int .i64 0, .bool false] rfl ?_; intro bC wn hbn kn hUn hsn; clear cR fR cP fP; have lRC := heap_lt kR; rw [hbn] at lRC; replace kR := hUn.heap kR (fun h => h); have lPC := heap_lt kP; rw [hbn] at lPC; replace kP := hUn.heap kP (fun h => h); have gC : w.heap.size ≤ bC := Nat.le_trans hU0.size (Nat.le_of_eq hbn); have kC := kn; replace hU0 := hU0.then hUn (fun _ _ h => h.elim); replace hz : w.heap.size ≤ wn.heap.size := (by omega); have vC : w6.heap.size ≤ bC := Nat.le_trans HV2.out.size (Nat.le_of_eq hbn); replace HV2 := Lib.hid (HV2.out.then hUn (fun _ _ h => h.elim)); clear kn hUn hsn hbn; have cC := cells_of kC; (try simp only [patC, progC, zzT, zzO, zzS] at cC); have fC := frees_of kC; have cR := cells_of kR; (try simp only [patC, progC, zzT, zzO, zzS] at cR); have fR := frees_of kR; have cP := cells_of kP; (try simp only [patC, progC, zzT, zzO, zzS] at cP); have fP := frees_of kP); clear _kk)
      | ((with_reducible refine stopAl 69 rfl ?_); unfold Stop; refine wpList_alloc_blk rfl 69 rfl (.agg #[.slice none 0 0, .int .i64 0, .int .i64 0, .int .u8 0]) (by kernel_rfl) #[.slice none 0 0, .int .i64 0, .int .i64 0, .int .u8 0] rfl ?_; intro bP wn hbn kn hUn hsn; clear cR fR; have lRP := heap_lt kR; rw [hbn] at lRP; replace kR := hUn.heap kR (fun h => h); have gP : w.heap.size ≤ bP := Nat.le_trans hU0.size (Nat.le_of_eq hbn); have kP := kn; replace hU0 := hU0.then hUn (fun _ _ h => h.elim); replace hz : w.heap.size ≤ wn.heap.size := (by omega); have vP : w5.heap.size ≤ bP := Nat.le_trans HV.out.size (Nat.le_of_eq hbn); replace HV := Lib.hid (HV.out.then hUn (fun _ _ h => h.elim)); clear kn hUn hsn hbn; have cP := cells_of kP; (try simp only [patC, progC, zzT, zzO, zzS] at cP); have fP := frees_of kP; have cR := cells_of kR; (try simp only [patC, progC, zzT, zzO, zzS] at cR); have fR := frees_of kR)
      | ((with_reducible refine stopAl 31 rfl ?_); unfold Stop; refine wpList_alloc_blk rfl 31 rfl (.agg #[.slice none 0 0, .int .i64 0, .bool false]) (by kernel_rfl) #[.slice none 0 0, .int .i64 0, .bool false] rfl ?_; intro bR wn hbn kn hUn hsn; have gR : w.heap.size ≤ bR := Nat.le_trans hU0.size (Nat.le_of_eq hbn); have kR := kn; replace hU0 := hU0.then hUn (fun _ _ h => h.elim); replace hz : w.heap.size ≤ wn.heap.size := (by omega); clear kn hUn hsn hbn; have cR := cells_of kR; (try simp only [patC, progC, zzT, zzO, zzS] at cR); have fR := frees_of kR)
      | ((with_reducible refine stopLd 69 _ rfl ?_); unfold Stop; refine wpList_load_row rfl 69 _ rfl _ rfl 69 _ (0, 0) _ kP Try.underlying69 rfl (by kernel_rfl) ?_)
      | ((with_reducible refine stopLd 31 _ rfl ?_); unfold Stop; refine wpList_load_row rfl 31 _ rfl _ rfl 31 _ (0, 0) _ kC Try.underlying31 rfl (by kernel_rfl) ?_)
      | (go_at_call 28; refine (HPA.out _).mono ?_; rintro e w5 ⟨nv, kvs, he5, hPat, hqq⟩; obtain ⟨ga, gc, rfl⟩ := hPat.form; unfold patC at he5; subst he5; have HPT := Lib.hid hPat; have HV := Lib.hid (Upd.refl (fun k => w5.heap.size ≤ k) w5); clear cR fR; replace kR := (hqq).heap kR (fun h => h); replace hz := Nat.le_trans hz (hqq).size; replace hU0 := hU0.then hqq (fun _ _ h => h.elim); have cR := cells_of kR; (try simp only [patC, progC, zzT, zzO, zzS] at cR); have fR := frees_of kR; clear hqq hPat)
      | (go_at_call 29; refine (compile_any (HPT.out.newer HV.out) (fun v hv g hg => Nat.lt_of_lt_of_le (HPT.out.kid_lt v hv g hg) HV.out.size) HOK.out.1 fold q2 e2 HC.out).mono ?_; rintro e w6 ⟨cv, he6, hCode, hqq⟩; obtain ⟨ca, cc, rfl⟩ := hCode.form; unfold progC at he6; subst he6; have HCD := Lib.hid hCode; have HV2 := Lib.hid (Upd.refl (fun k => w6.heap.size ≤ k ∨ k = bR) w6); clear cR fR cP fP; replace kR := (hqq).heap kR (fun h => h); replace kP := (hqq).heap kP (fun h => h); replace hz := Nat.le_trans hz (hqq).size; replace hU0 := hU0.then hqq (fun _ _ h => h.elim); have cR := cells_of kR; (try simp only [patC, progC, zzT, zzO, zzS] at cR); have fR := frees_of kR; have cP := cells_of kP; (try simp only [patC, progC, zzT, zzO, zzS] at cP); have fP := frees_of kP; have HK6 := Lib.hid kR; clear hqq hCode)
      | ((with_reducible refine stopSt 69 _ _ rfl ?_); unfold Stop; refine wpList_store_blk rfl 69 _ _ rfl _ _ rfl _ (by go_simp; first | done | exact rfl) _ _ _ kP (zzB rfl) (by kernel_rfl) rfl (by simp only [spl, patC, progC, Value.cells, zzT, zzO, zzS, Array.toList]; exact rfl) ?_; intro wn kn hUn hsn; clear cP fP cR fR; replace kR := hUn.heap kR (by omega); replace kP := kn; replace hU0 := hU0.then hUn (fun i hi (e : i = _) => by first | exact e | exact absurd hi (by omega) | (subst e; first | assumption | (show _ ≤ _; omega)) | exact .inl e | exact .inr e | exact .inr (.inl e) | exact .inr (.inr e)); replace hz := Nat.le_trans hz (Nat.le_of_eq hsn.symm); replace HV := Lib.hid (HV.out.then hUn (fun i hi (e : i = bP) => by omega)); clear kn hUn hsn; have cP := cells_of kP; (try simp only [patC, progC, zzT, zzO, zzS] at cP); have fP := frees_of kP; have cR := cells_of kR; (try simp only [patC, progC, zzT, zzO, zzS] at cR); have fR := frees_of kR)
      | (have _kk := HCD.out; ((with_reducible refine stopSt 31 _ _ rfl ?_); unfold Stop; refine wpList_store_blk rfl 31 _ _ rfl _ _ rfl _ (by go_simp; first | done | exact rfl) _ _ _ kC (zzB rfl) (by kernel_rfl) rfl (by simp only [spl, patC, progC, Value.cells, zzT, zzO, zzS, Array.toList]; exact rfl) ?_; intro wn kn hUn hsn; clear cC fC cR fR cP fP; replace kR := hUn.heap kR (by omega); replace kP := hUn.heap kP (by omega); replace kC := kn; replace hU0 := hU0.then hUn (fun i hi (e : i = _) => by first | exact e | exact absurd hi (by omega) | (subst e; first | assumption | (show _ ≤ _; omega)) | exact .inl e | exact .inr e | exact .inr (.inl e) | exact .inr (.inr e)); replace hz := Nat.le_trans hz (Nat.le_of_eq hsn.symm); replace HV2 := Lib.hid (HV2.out.then hUn (fun i hi (e : i = bC) => by omega)); clear kn hUn hsn; have cC := cells_of kC; (try simp only [patC, progC, zzT, zzO, zzS] at cC); have fC := frees_of kC; have cR := cells_of kR; (try simp only [patC, progC, zzT, zzO, zzS] at cR); have fR := frees_of kR; have cP := cells_of kP; (try simp only [patC, progC, zzT, zzO, zzS] at cP); have fP := frees_of kP); clear _kk)
      | (have _kk := HCD.out; ((with_reducible refine stopSt 31 _ _ rfl ?_); unfold Stop; refine wpList_store_blk rfl 31 _ _ rfl _ _ rfl _ (by go_simp; first | done | exact rfl) _ _ _ kR (zzB rfl) (by kernel_rfl) rfl (by simp only [spl, patC, progC, Value.cells, zzT, zzO, zzS, Array.toList]; exact rfl) ?_; intro wn kn hUn hsn; clear cR fR cC fC cP fP; replace kC := hUn.heap kC (by omega); replace kP := hUn.heap kP (by omega); replace kR := kn; replace hU0 := hU0.then hUn (fun i hi (e : i = _) => by first | exact e | exact absurd hi (by omega) | (subst e; first | assumption | (show _ ≤ _; omega)) | exact .inl e | exact .inr e | exact .inr (.inl e) | exact .inr (.inr e)); replace hz := Nat.le_trans hz (Nat.le_of_eq hsn.symm); replace HV2 := Lib.hid (HV2.out.then hUn (fun i hi (e : i = bR) => .inr e)); clear kn hUn hsn; have cR := cells_of kR; (try simp only [patC, progC, zzT, zzO, zzS] at cR); have fR := frees_of kR; have cC := cells_of kC; (try simp only [patC, progC, zzT, zzO, zzS] at cC); have fC := frees_of kC; have cP := cells_of kP; (try simp only [patC, progC, zzT, zzO, zzS] at cP); have fP := frees_of kP); clear _kk))
    exact bodyPost_ret (v := .agg _) (results_blk1 Try.results15 _ _ bR 31 _ (0, 0) _ rfl kR Try.underlying31 rfl (by kernel_rfl)) rfl ⟨_, rfl, ownsRow_upd HCD.out HV2.out (fun g hg h => h.elim (fun (h : w6.heap.size ≤ g) => by have h9 : g < w6.heap.size := (HCD.out.lt g hg).2; omega) (fun (h : g = bR) => prog_inst HCD.out hg (show w6.heap[g]? = some (.cells #[.slice none 0 0, .int .i64 0, .bool false] 31 (0, 0)) by rw [h]; exact HK6.out))), hU0⟩
  · rw [if_pos he] at hq
    have e := Option.some.inj hq
    subst e
    clear hq
    go_enter Try.func15, Try.ntmps15
    go_wp2_with (first
      | ((with_reducible refine stopAl 69 rfl ?_); unfold Stop; refine wpList_alloc_blk rfl 69 rfl (.agg #[.slice none 0 0, .int .i64 0, .int .i64 0, .int .u8 0]) (by kernel_rfl) #[.slice none 0 0, .int .i64 0, .int .i64 0, .int .u8 0] rfl ?_; intro bP wn hbn kn hUn hsn; clear cR fR; have lRP := heap_lt kR; rw [hbn] at lRP; replace kR := hUn.heap kR (fun h => h); have gP : w.heap.size ≤ bP := Nat.le_trans hU0.size (Nat.le_of_eq hbn); have kP := kn; replace hU0 := hU0.then hUn (fun _ _ h => h.elim); replace hz : w.heap.size ≤ wn.heap.size := (by omega); clear kn hUn hsn hbn; have cP := cells_of kP; (try simp only [patC, progC, zzT, zzO, zzS] at cP); have fP := frees_of kP; have cR := cells_of kR; (try simp only [patC, progC, zzT, zzO, zzS] at cR); have fR := frees_of kR)
      | ((with_reducible refine stopAl 31 rfl ?_); unfold Stop; refine wpList_alloc_blk rfl 31 rfl (.agg #[.slice none 0 0, .int .i64 0, .bool false]) (by kernel_rfl) #[.slice none 0 0, .int .i64 0, .bool false] rfl ?_; intro bR wn hbn kn hUn hsn; have gR : w.heap.size ≤ bR := Nat.le_trans hU0.size (Nat.le_of_eq hbn); have kR := kn; replace hU0 := hU0.then hUn (fun _ _ h => h.elim); replace hz : w.heap.size ≤ wn.heap.size := (by omega); clear kn hUn hsn hbn; have cR := cells_of kR; (try simp only [patC, progC, zzT, zzO, zzS] at cR); have fR := frees_of kR)
      | (go_at_call 28; refine (HPA.out _).mono ?_; rintro e w5 ⟨nv, kvs, he5, hPat, hqq⟩; obtain ⟨ga, gc, rfl⟩ := hPat.form; unfold patC at he5; subst he5; clear cR fR; replace kR := (hqq).heap kR (fun h => h); replace hz := Nat.le_trans hz (hqq).size; replace hU0 := hU0.then hqq (fun _ _ h => h.elim); have cR := cells_of kR; (try simp only [patC, progC, zzT, zzO, zzS] at cR); have fR := frees_of kR; clear hqq hPat)
      | ((with_reducible refine stopSt 69 _ _ rfl ?_); unfold Stop; refine wpList_store_blk rfl 69 _ _ rfl _ _ rfl _ (by go_simp; first | done | exact rfl) _ _ _ kP (zzB rfl) (by kernel_rfl) rfl (by simp only [spl, patC, progC, Value.cells, zzT, zzO, zzS, Array.toList]; exact rfl) ?_; intro wn kn hUn hsn; clear cP fP cR fR; replace kR := hUn.heap kR (by omega); replace kP := kn; replace hU0 := hU0.then hUn (fun i hi (e : i = _) => by first | exact e | exact absurd hi (by omega) | (subst e; first | assumption | (show _ ≤ _; omega)) | exact .inl e | exact .inr e | exact .inr (.inl e) | exact .inr (.inr e)); replace hz := Nat.le_trans hz (Nat.le_of_eq hsn.symm); clear kn hUn hsn; have cP := cells_of kP; (try simp only [patC, progC, zzT, zzO, zzS] at cP); have fP := frees_of kP; have cR := cells_of kR; (try simp only [patC, progC, zzT, zzO, zzS] at cR); have fR := frees_of kR)
      | ((with_reducible refine stopSt 31 _ _ rfl ?_); unfold Stop; refine wpList_store_blk rfl 31 _ _ rfl _ _ rfl _ (by go_simp; first | done | exact rfl) _ _ _ kR (zzB rfl) (by kernel_rfl) rfl (by simp only [spl, patC, progC, Value.cells, zzT, zzO, zzS, Array.toList]; exact rfl) ?_; intro wn kn hUn hsn; clear cR fR cP fP; replace kP := hUn.heap kP (by omega); replace kR := kn; replace hU0 := hU0.then hUn (fun i hi (e : i = _) => by first | exact e | exact absurd hi (by omega) | (subst e; first | assumption | (show _ ≤ _; omega)) | exact .inl e | exact .inr e | exact .inr (.inl e) | exact .inr (.inr e)); replace hz := Nat.le_trans hz (Nat.le_of_eq hsn.symm); clear kn hUn hsn; have cR := cells_of kR; (try simp only [patC, progC, zzT, zzO, zzS] at cR); have fR := frees_of kR; have cP := cells_of kP; (try simp only [patC, progC, zzT, zzO, zzS] at cP); have fP := frees_of kP))
    exact bodyPost_ret (v := .agg _) (results_blk1 Try.results15 _ _ bR 31 _ (0, 0) _ rfl kR Try.underlying31 rfl (by kernel_rfl)) rfl ⟨.slice none 0 0, rfl, CodeAt.none _, hU0⟩
end Go.Proofs.Ytigbfgmgdfnhcaa
namespace Go.Proofs.Ytigbfgmgdfnhcaa
open Go.RowKit
theorem place_any (x n : Int) (w : World) : Calls Try.prog 67 #[.int .i64 x, .int .i64 n] w fun e w' => e = .returned (.bool (placeB x n)) ∧ w = w' := by
  go_enter Try.func67, Try.ntmps67
  go_wp2
  all_goals (first | go_end0 | go_ret)
  all_goals (refine ⟨congrArg Ending.returned (show Value.bool _ = Value.bool (placeB x n) from congrArg Value.bool ?_), rfl⟩; unfold placeB; simp_all <;> omega)
theorem within_any (x n : Int) (w : World) : Calls Try.prog 55 #[.int .i64 x, .int .i64 n] w fun e w' => e = .returned (.bool (placeB x n)) ∧ w = w' := by
  go_enter Try.func55, Try.ntmps55
  go_wp2
  all_goals (first | go_end0 | go_ret)
  all_goals (refine ⟨congrArg Ending.returned (show Value.bool _ = Value.bool (placeB x n) from congrArg Value.bool ?_), rfl⟩; unfold placeB; simp_all <;> omega)
set_option maxRecDepth 100000 in
set_option maxHeartbeats 8000000 in
theorem fine_any {w : World} (p : ProgD) (i : InstD) (ca : Option Addr) (cc : Nat) :
    Calls Try.prog 50 #[.agg (progC p (.slice ca p.code.length cc)), .agg (instC i).toArray] w fun e w' => e = .returned (.bool (fineB p i)) ∧ Upd (fun _ => False) w w' := by
  have hU0 := Upd.refl (fun _ => False) w
  have hz := Nat.le_refl w.heap.size
  unfold progC instC
  go_enter Try.func50, Try.ntmps50
  go_wp2_with (first
    | ((with_reducible refine stopBx 31 _ rfl ?_); unfold Stop; refine wpList_box_blk rfl 31 _ rfl _ (by go_simp; first | done | exact rfl) #[.slice ca p.code.length cc, .int .i64 p.rounds, .bool p.fold] rfl ?_; intro bP wn hbn kn hUn hsn; have gP : w.heap.size ≤ bP := Nat.le_trans hU0.size (Nat.le_of_eq hbn); have kP := kn; replace hU0 := hU0.then hUn (fun _ _ h => h.elim); replace hz : w.heap.size ≤ wn.heap.size := (by omega); clear kn hUn hsn hbn; have cP := cells_of kP; (try simp only [progC, instC, zzT, zzO, zzS] at cP); have fP := frees_of kP)
    | ((with_reducible refine stopBx 63 _ rfl ?_); unfold Stop; refine wpList_box_blk rfl 63 _ rfl _ (by go_simp; first | done | exact rfl) #[.int .u8 i.op, .int .u8 i.c, .int .u64 i.set.a0, .int .u64 i.set.a1, .int .u64 i.set.a2, .int .u64 i.set.a3, .int .i64 i.x, .int .i64 i.y] rfl ?_; intro bI wn hbn kn hUn hsn; clear cP fP; have lPI := heap_lt kP; rw [hbn] at lPI; replace kP := hUn.heap kP (fun h => h); have gI : w.heap.size ≤ bI := Nat.le_trans hU0.size (Nat.le_of_eq hbn); have kI := kn; replace hU0 := hU0.then hUn (fun _ _ h => h.elim); replace hz : w.heap.size ≤ wn.heap.size := (by omega); clear kn hUn hsn hbn; have cI := cells_of kI; (try simp only [progC, instC, zzT, zzO, zzS] at cI); have fI := frees_of kI; have cP := cells_of kP; (try simp only [progC, instC, zzT, zzO, zzS] at cP); have fP := frees_of kP)
    | (go_at_call 67; refine (place_any _ _ _).mono ?_; rintro e w5 ⟨rfl, rfl⟩))
  all_goals (first | go_end0 | go_ret)
  all_goals (refine ⟨congrArg Ending.returned (show Value.bool _ = Value.bool (fineB p i) from congrArg Value.bool ?_), hU0⟩; clear kP cP fP kI cI fI hz hU0 gP gI lPI; unfold fineB; simp_all <;> omega)
set_option maxRecDepth 100000 in
set_option maxHeartbeats 8000000 in
theorem fine_any2 {w : World} (p : ProgD) (i : InstD) (ca : Option Addr) (cc : Nat) :
    Calls Try.prog 38 #[.agg (progC p (.slice ca p.code.length cc)), .agg (instC i).toArray] w fun e w' => e = .returned (.bool (fineB p i)) ∧ Upd (fun _ => False) w w' := by
  have hU0 := Upd.refl (fun _ => False) w
  have hz := Nat.le_refl w.heap.size
  unfold progC instC
  go_enter Try.func38, Try.ntmps38
  go_wp2_with (first
    | ((with_reducible refine stopBx 31 _ rfl ?_); unfold Stop; refine wpList_box_blk rfl 31 _ rfl _ (by go_simp; first | done | exact rfl) #[.slice ca p.code.length cc, .int .i64 p.rounds, .bool p.fold] rfl ?_; intro bP wn hbn kn hUn hsn; have gP : w.heap.size ≤ bP := Nat.le_trans hU0.size (Nat.le_of_eq hbn); have kP := kn; replace hU0 := hU0.then hUn (fun _ _ h => h.elim); replace hz : w.heap.size ≤ wn.heap.size := (by omega); clear kn hUn hsn hbn; have cP := cells_of kP; (try simp only [progC, instC, zzT, zzO, zzS] at cP); have fP := frees_of kP)
    | ((with_reducible refine stopBx 63 _ rfl ?_); unfold Stop; refine wpList_box_blk rfl 63 _ rfl _ (by go_simp; first | done | exact rfl) #[.int .u8 i.op, .int .u8 i.c, .int .u64 i.set.a0, .int .u64 i.set.a1, .int .u64 i.set.a2, .int .u64 i.set.a3, .int .i64 i.x, .int .i64 i.y] rfl ?_; intro bI wn hbn kn hUn hsn; clear cP fP; have lPI := heap_lt kP; rw [hbn] at lPI; replace kP := hUn.heap kP (fun h => h); have gI : w.heap.size ≤ bI := Nat.le_trans hU0.size (Nat.le_of_eq hbn); have kI := kn; replace hU0 := hU0.then hUn (fun _ _ h => h.elim); replace hz : w.heap.size ≤ wn.heap.size := (by omega); clear kn hUn hsn hbn; have cI := cells_of kI; (try simp only [progC, instC, zzT, zzO, zzS] at cI); have fI := frees_of kI; have cP := cells_of kP; (try simp only [progC, instC, zzT, zzO, zzS] at cP); have fP := frees_of kP)
    | (go_at_call 55; refine (within_any _ _ _).mono ?_; rintro e w5 ⟨rfl, rfl⟩))
  all_goals (first | go_end0 | go_ret)
  all_goals (refine ⟨congrArg Ending.returned (show Value.bool _ = Value.bool (fineB p i) from congrArg Value.bool ?_), hU0⟩; clear kP cP fP kI cI fI hz hU0 gP gI lPI; unfold fineB; simp_all <;> omega)
end Go.Proofs.Ytigbfgmgdfnhcaa
namespace Go.Proofs.Ytigbfgmgdfnhcaa
open Go.RowKit
section
variable {P : Program} {ops : Array Oper} {rest : List Oper} {op : Oper} {a : Act} {w : World} {Q : Exit → Act → World → Prop} {K : Act → World → Prop}
theorem run_loadVar_any (w : World) (A : Addr) (ty : TypeId) (cs : List Value) (d : TypeDesc) (hc : ∀ j v, cs[j]? = some v → w.cell? (A.add j) = some v)
    (hu : P.underlying ty = some d) (hd : d.isRow = true) (hi : (P.info? ty).map (·.size) = some cs.length) :
    (loadVar ty A).run P w = .ok (.agg cs.toArray) w := by
  have hl : (loadCells A cs.length).run P w = .ok cs.toArray w := run_loadCells_list (P := P) w A cs hc
  cases hq : P.info? ty with
  | none => simp [hq] at hi
  | some i =>
    have hs : i.size = cs.length := by simpa [hq] using hi
    have hagg : (isAgg ty).run P w = .ok true w := by
      unfold isAgg
      rw [Sem.run_bind, run_underlying hu w]
      cases d <;> simp_all
    simp [loadVar, Sem.run_bind, hagg, sizeOf, typeInfo, hq, hs, hl]
theorem exec_load_any (ty : TypeId) (x : Operand) (ho : op.op = .load ty x) (A : Addr) (hx : a.eval x = .pointer (some A)) (cs : List Value) (d : TypeDesc) (hc : ∀ j v, cs[j]? = some v → w.cell? (A.add j) = some v)
    (hu : P.underlying ty = some d) (hd : d.isRow = true) (hi : (P.info? ty).map (·.size) = some cs.length) : (execOp a.eval op).run P w = .ok (.value (.agg cs.toArray)) w := by
  unfold execOp
  simp only [ho, hx, Instr.loadAt, Instr.sureAddr, Sem.run_bind, Sem.run_pure, Result.andThen_ok, run_loadVar_any w A ty cs d hc hu hd hi]
theorem wp_load_any (ty : TypeId) (x : Operand) (ho : op.op = .load ty x) (A : Addr) (hx : a.eval x = .pointer (some A)) (cs : List Value) (d : TypeDesc) (hc : ∀ j v, cs[j]? = some v → w.cell? (A.add j) = some v)
    (hu : P.underlying ty = some d) (hd : d.isRow = true) (hi : (P.info? ty).map (·.size) = some cs.length)
    (h : K (a.put op.dst (.agg cs.toArray)) w) : op.wp P a w K Q := by
  unfold Oper.wp execOp
  simp only [ho, hx, Instr.loadAt, Instr.sureAddr, Sem.run_bind, Sem.run_pure, Result.andThen_ok, run_loadVar_any w A ty cs d hc hu hd hi]
  exact h
theorem wpList_load_any (hgd : op.guard = none) (ty : TypeId) (x : Operand) (ho : op.op = .load ty x) (A : Addr) (hx : a.eval x = .pointer (some A)) (cs : List Value) (d : TypeDesc) (hc : ∀ j v, cs[j]? = some v → w.cell? (A.add j) = some v)
    (hu : P.underlying ty = some d) (hd : d.isRow = true) (hi : (P.info? ty).map (·.size) = some cs.length)
    (h : wpList P ops Q rest (a.put op.dst (.agg cs.toArray)) w) : wpList P ops Q (op :: rest) a w :=
  wpList_plain hgd fun _ hK => wp_load_any ty x ho A hx cs d hc hu hd hi (hK _ _ h)
end
/-- Code that lies somewhere in memory. -/
def CodeR (w : World) (ca : Option Addr) (code : List InstD) : Prop := ∀ k (h : k < code.length), ∃ A : Addr, ca = some A ∧ A.block < w.heap.size ∧ ∀ j v, (instC code[k])[j]? = some v → w.cell? ((A.add (k * 8)).add j) = some v
theorem Addr.add_block (A : Addr) (n : Nat) : (A.add n).block = A.block := by unfold Addr.add; split <;> rfl
theorem CodeR.newer {w w' : World} {ca : Option Addr} {code : List InstD} (h : CodeR w ca code) (hu : Upd (fun k => w.heap.size ≤ k) w w') : CodeR w' ca code := fun k hk => by
  obtain ⟨A, h1, h2, h3⟩ := h k hk
  refine ⟨A, h1, Nat.lt_of_lt_of_le h2 hu.size, fun j v hv => hu.cell (h3 j v hv) ?_⟩
  rw [Addr.add_block, Addr.add_block]
  omega
theorem codeC_at : ∀ (l : List InstD) (k j : Nat) (v : Value) (h : k < l.length), (instC l[k])[j]? = some v → (codeC l)[k * 8 + j]? = some v
  | [], k, j, v, h, _ => absurd h (Nat.not_lt_zero _)
  | i :: l, 0, j, v, h, hv => by
    have hj : j < (instC i).length := by
      rcases Nat.lt_or_ge j (instC i).length with h | h
      · exact h
      · rw [List.getElem_cons_zero, List.getElem?_eq_none h] at hv; cases hv
    show (instC i ++ codeC l)[0 * 8 + j]? = some v
    rw [Nat.zero_mul, Nat.zero_add, List.getElem?_append_left hj]
    exact hv
  | i :: l, k + 1, j, v, h, hv => by
    show (instC i ++ codeC l)[(k + 1) * 8 + j]? = some v
    have e : (instC i).length = 8 := rfl
    rw [List.getElem?_append_right (by rw [e]; omega), e, show (k + 1) * 8 + j - 8 = k * 8 + j by omega]
    exact codeC_at l k j v (by simpa using h) (by simpa using hv)
theorem CodeAt.rows {w : World} {ca : Option Addr} {n cc : Nat} {code : List InstD} (h : CodeAt w (.slice ca n cc) code) : CodeR w ca code := fun k hk => by
  rcases h.2 with ⟨_, h0⟩ | ⟨g, cap, cur, e, _, hb, hnc, _, hsz, htk⟩
  · omega
  · injection e with e1 e2 e3
    subst e1
    refine ⟨_, rfl, heap_lt hb, fun j v hv => ?_⟩
    have hj : j < 8 := by
      rcases Nat.lt_or_ge j (instC code[k]).length with h | h
      · exact h
      · rw [List.getElem?_eq_none h] at hv; cases hv
    have h1 := codeC_at code k j v hk hv
    rw [← htk, List.getElem?_take] at h1
    split at h1
    · rw [Addr.add_mid, Addr.add_mid, cells_of hb (0 + k * 8 + j), show 0 + k * 8 + j = k * 8 + j by omega]
      simpa using h1
    · cases h1
end Go.Proofs.Ytigbfgmgdfnhcaa
namespace Go.Proofs.Ytigbfgmgdfnhcaa
open Go.RowKit
theorem soundB_good {p : ProgD} (h1 : 1 ≤ p.code.length) (h2 : p.code.length ≤ 2000) (h3 : 0 ≤ p.rounds) (h4 : p.rounds ≤ 2000) : soundB p = (p.code.all (fineB p) && ((p.code.getLastD .zero).op == 14 || (p.code.getLastD .zero).op == 5)) := by
  unfold soundB; simp [h1, h2, h3, h4]
theorem all_take2 {α : Type} {q : α → Bool} {l : List α} {i : Nat} (h : i < l.length) (hs : (l.take i).all q = true) (hj : q l[i] = true) : (l.take (i + 1)).all q = true := by
  rw [List.take_succ_eq_append_getElem h, List.all_append, hs]; simp [hj]
theorem all_bad {α : Type} {q : α → Bool} {l : List α} {i : Nat} (h : i < l.length) (hj : q l[i] = false) : l.all q = false := by
  rw [Bool.eq_false_iff]; intro e
  rw [List.all_eq_true] at e
  rw [e _ (List.getElem_mem h)] at hj; cases hj
theorem last_op {l : List InstD} (h : 0 < l.length) : l.getLastD .zero = l[l.length - 1] := by
  rw [List.getLastD_eq_getLast?, List.getLast?_eq_getElem?, List.getElem?_eq_getElem (by omega)]; rfl
set_option maxRecDepth 100000 in
set_option maxHeartbeats 8000000 in
theorem soundR_any {w : World} (p : ProgD) (ca : Option Addr) (cc : Nat) (hc : CodeR w ca p.code) :
    Calls Try.prog 33 #[.agg (progC p (.slice ca p.code.length cc))] w fun e w' => e = .returned (.bool (soundB p)) ∧ Upd (fun _ => False) w w' := by
  have hU0 := Upd.refl (fun _ => False) w
  have hz := Nat.le_refl w.heap.size
  have HC := Lib.hid hc
  unfold progC
  clear hc
  obtain ⟨E, hE⟩ : ∃ E, soundB p = E := ⟨_, rfl⟩
  have HE := Lib.hid hE
  rw [hE]
  clear hE
  by_cases h1 : 1 ≤ p.code.length ∧ p.code.length ≤ 2000 ∧ 0 ≤ p.rounds ∧ p.rounds ≤ 2000
  · obtain ⟨h1, h2, h3, h4⟩ := h1
    have HE2 := Lib.hid (HE.out.symm.trans (soundB_good h1 h2 h3 h4))
    go_enter Try.func33, Try.ntmps33
    go_wp2_with (first
      | ((with_reducible refine stopBx 31 _ rfl ?_); unfold Stop; refine wpList_box_blk rfl 31 _ rfl _ (by go_simp; first | done | exact rfl) #[.slice ca p.code.length cc, .int .i64 p.rounds, .bool p.fold] rfl ?_; intro bP wn hbn kn hUn hsn; have gP : w.heap.size ≤ bP := Nat.le_trans hU0.size (Nat.le_of_eq hbn); have kP := kn; replace hU0 := hU0.then hUn (fun _ _ h => h.elim); replace hz : w.heap.size ≤ wn.heap.size := (by omega); clear kn hUn hsn hbn; have cP := cells_of kP; (try simp only [progC, instC, zzT, zzO, zzS] at cP); have fP := frees_of kP))
    go_loopg [4] p.code.length (fun gk iv wr => ∃ (i : Nat), iv = .int .i64 (i : Nat) ∧ i + gk = p.code.length ∧ Hid ((p.code.take i).all (fineB p) = true) ∧ wr.heap[bP]? = some (.cells #[.slice ca p.code.length cc, .int .i64 p.rounds, .bool p.fold] 31 (0, 0)) ∧ Upd (fun _ => False) w wr)
    case atStart => exact ⟨0, rfl, by omega, Lib.hid rfl, kP, hU0⟩
    case round =>
      clear kP cP fP hU0 hz
      obtain ⟨i, rfl, hi, hT, kP, hU0⟩ := hrel
      have hz := hU0.size
      have cP := cells_of kP; (try simp only [progC, instC, zzT, zzO, zzS] at cP); have fP := frees_of kP
      by_cases hlt : i < p.code.length
      · obtain ⟨A, hA, hAb, hAc⟩ := HC.out.newer (hU0.mono (fun _ _ h => h.elim)) i hlt
        obtain ⟨x, hx⟩ : ∃ x, p.code[i] = x := ⟨_, rfl⟩
        rw [hx] at hAc
        subst hA
        have HX := Lib.hid hx
        have HAC := Lib.hid hAc
        clear hx hAc
        have c0 := cP 0
        go_wp2
        refine wp_region_seq (fun v => Upd (fun _ => False) wr v) (fun i => i != 99) [(0, true), (1, true), (2, true), (3, true), (4, true), (5, true), (6, false), (7, true)] (by exact rfl) (by kernel_rfl) (by intro c a d v w h; cases d <;> exact h) ?_
        have hS : Upd (fun _ => False) wr wr.drew := (Upd.refl _ wr).drew
        (apply seq_val2 rfl (by rfl); (focus (intro w' hS'; have s0 := hS'.cell (cell_of kP 0 (v := .slice (some A) p.code.length cc) rfl) (fun h => h); exact exec_load_blk 31 _ rfl bP rfl 31 #[.slice (some A) p.code.length cc, .int .i64 p.rounds, .bool p.fold] (0, 0) _ (hS'.heap kP (fun h => h)) Try.underlying31 rfl (by kernel_rfl))); (focus exact hS))
        (try simp only [Act.put, zzT, zzO, zzS])
        iterate 4 (((apply seq_val2 rfl (by rfl); (focus (intro w' hS'; have s0 := hS'.cell (cell_of kP 0 (v := .slice (some A) p.code.length cc) rfl) (fun h => h); go_simp; (first | done | exact rfl | (rw [if_pos (by omega)]; done)))); (focus exact hS))); (try simp only [Act.put, zzT, zzO, zzS]))
        (apply seq_val2 rfl (by rfl); (focus (intro w' hS'; have s0 := hS'.cell (cell_of kP 0 (v := .slice (some A) p.code.length cc) rfl) (fun h => h); exact exec_load_any 63 _ rfl (A.add (i * 8)) rfl (instC x) _ (fun j v hv => hS'.cell (HAC.out j v hv) (fun h => h)) Try.underlying63 rfl (by kernel_rfl))); (focus exact hS))
        (try simp only [Act.put, zzT, zzO, zzS])
        apply seq_call2 (fun v w' => v = Value.bool (fineB p x) ∧ Upd (fun _ => False) wr w') rfl (by rfl)
        focus (go_simp; (first | done | exact rfl | exact ⟨rfl, rfl⟩))
        focus (refine (fine_any p x (some A) cc).mono ?_; rintro e w' ⟨rfl, hu⟩; exact ⟨_, rfl, rfl, hS.then hu (fun _ _ h => h)⟩)
        rintro v w5 ⟨rfl, hS2⟩; clear hS; have hS := hS2; clear hS2; refine ⟨fun _ => hS, ?_⟩
        (try simp only [Act.put, zzT, zzO, zzS])
        (apply seq_val2 rfl (by rfl); (focus (intro w' hS'; have s0 := hS'.cell (cell_of kP 0 (v := .slice (some A) p.code.length cc) rfl) (fun h => h); go_simp; (first | done | exact rfl | (rw [if_pos (by omega)]; done)))); (focus exact hS))
        (try simp only [Act.put, zzT, zzO, zzS])
        refine seq_nil ?_
        have kP2 := hS.heap kP (fun h => h)
        have hU2 := hU0.then hS (fun _ _ h => h)
        have hi2 : i + 1 + (gk - 1) = p.code.length := by omega
        clear hS cP fP c0
        cases hb : fineB p x
        · have HE3 : Hid (E = false) := Lib.hid (by rw [HE2.out, all_bad hlt (by rw [HX.out]; exact hb)]; rfl)
          clear hb
          go_wp2
          go_ret
          exact ⟨ret_bool HE3.out.symm, hU2⟩
        · have HT2 : Hid ((p.code.take (i + 1)).all (fineB p) = true) := Lib.hid (all_take2 hlt hT.out (by rw [HX.out]; exact hb))
          clear hb
          go_wp2
          go_roundg (gk - 1)
          case measure => omega
          case rel => exact ⟨i + 1, by go_num, hi2, HT2, kP2, hU2⟩
      · have hin : i = p.code.length := by omega
        subst hin
        obtain ⟨A, hA, hAb, hAc⟩ := HC.out.newer (hU0.mono (fun _ _ h => h.elim)) (p.code.length - 1) (by omega)
        have hL := last_op (l := p.code) (by omega)
        obtain ⟨x, hx⟩ : ∃ x, p.code[p.code.length - 1] = x := ⟨_, rfl⟩
        rw [hx] at hAc hL
        subst hA
        have HE3 : Hid (E = (x.op == 14 || x.op == 5)) := Lib.hid (by rw [HE2.out, hL]; have h1 := hT.out; rw [List.take_length] at h1; rw [h1]; rfl)
        have d0 : wr.cell? (A.add ((p.code.length - 1) * 8)) = some (.int .u8 x.op) := hAc 0 _ rfl
        clear hAc hx hL
        have e1 : ((p.code.length : Int) - 1) = ((p.code.length - 1 : Nat) : Int) := by omega
        by_cases h14 : x.op = 14
        · have g14 : (x.op == 14) = true := by simpa using h14
          have HE4 : Hid (E = true) := Lib.hid (by rw [HE3.out, g14]; rfl)
          clear h14
          go_wp2
          go_ret
          exact ⟨ret_bool HE4.out.symm, hU0⟩
        · have g14 : (x.op == 14) = false := by simpa using h14
          have HE4 : Hid (E = (x.op == 5)) := Lib.hid (by rw [HE3.out, g14]; rfl)
          clear h14
          go_wp2
          go_ret
          exact ⟨ret_bool HE4.out.symm, hU0⟩
  · have HE2 : Hid (E = false) := Lib.hid (by rw [← HE.out, Bool.eq_false_iff]; intro e; unfold soundB at e; simp only [Bool.and_eq_true, decide_eq_true_eq] at e; exact h1 ⟨e.1.1.1.1.1, e.1.1.1.1.2, e.1.1.1.2, e.1.1.2⟩)
    clear HE
    by_cases g1 : 1 ≤ p.code.length
    · by_cases g2 : p.code.length ≤ 2000
      · by_cases g3 : 0 ≤ p.rounds
        · have g4 : ¬ p.rounds ≤ 2000 := fun g4 => h1 ⟨g1, g2, g3, g4⟩
          clear h1
          go_enter Try.func33, Try.ntmps33
          go_wp2_with (first
            | ((with_reducible refine stopBx 31 _ rfl ?_); unfold Stop; refine wpList_box_blk rfl 31 _ rfl _ (by go_simp; first | done | exact rfl) #[.slice ca p.code.length cc, .int .i64 p.rounds, .bool p.fold] rfl ?_; intro bP wn hbn kn hUn hsn; have gP : w.heap.size ≤ bP := Nat.le_trans hU0.size (Nat.le_of_eq hbn); have kP := kn; replace hU0 := hU0.then hUn (fun _ _ h => h.elim); replace hz : w.heap.size ≤ wn.heap.size := (by omega); clear kn hUn hsn hbn; have cP := cells_of kP; (try simp only [progC, instC, zzT, zzO, zzS] at cP); have fP := frees_of kP))
          all_goals (first | go_end0 | go_ret)
          all_goals exact ⟨ret_bool HE2.out.symm, hU0⟩
        · clear h1
          go_enter Try.func33, Try.ntmps33
          go_wp2_with (first
            | ((with_reducible refine stopBx 31 _ rfl ?_); unfold Stop; refine wpList_box_blk rfl 31 _ rfl _ (by go_simp; first | done | exact rfl) #[.slice ca p.code.length cc, .int .i64 p.rounds, .bool p.fold] rfl ?_; intro bP wn hbn kn hUn hsn; have gP : w.heap.size ≤ bP := Nat.le_trans hU0.size (Nat.le_of_eq hbn); have kP := kn; replace hU0 := hU0.then hUn (fun _ _ h => h.elim); replace hz : w.heap.size ≤ wn.heap.size := (by omega); clear kn hUn hsn hbn; have cP := cells_of kP; (try simp only [progC, instC, zzT, zzO, zzS] at cP); have fP := frees_of kP))
          all_goals (first | go_end0 | go_ret)
          all_goals exact ⟨ret_bool HE2.out.symm, hU0⟩
      · clear h1
        go_enter Try.func33, Try.ntmps33
        go_wp2_with (first
          | ((with_reducible refine stopBx 31 _ rfl ?_); unfold Stop; refine wpList_box_blk rfl 31 _ rfl _ (by go_simp; first | done | exact rfl) #[.slice ca p.code.length cc, .int .i64 p.rounds, .bool p.fold] rfl ?_; intro bP wn hbn kn hUn hsn; have gP : w.heap.size ≤ bP := Nat.le_trans hU0.size (Nat.le_of_eq hbn); have kP := kn; replace hU0 := hU0.then hUn (fun _ _ h => h.elim); replace hz : w.heap.size ≤ wn.heap.size := (by omega); clear kn hUn hsn hbn; have cP := cells_of kP; (try simp only [progC, instC, zzT, zzO, zzS] at cP); have fP := frees_of kP))
        all_goals (first | go_end0 | go_ret)
        all_goals exact ⟨ret_bool HE2.out.symm, hU0⟩
    · clear h1
      go_enter Try.func33, Try.ntmps33
      go_wp2_with (first
        | ((with_reducible refine stopBx 31 _ rfl ?_); unfold Stop; refine wpList_box_blk rfl 31 _ rfl _ (by go_simp; first | done | exact rfl) #[.slice ca p.code.length cc, .int .i64 p.rounds, .bool p.fold] rfl ?_; intro bP wn hbn kn hUn hsn; have gP : w.heap.size ≤ bP := Nat.le_trans hU0.size (Nat.le_of_eq hbn); have kP := kn; replace hU0 := hU0.then hUn (fun _ _ h => h.elim); replace hz : w.heap.size ≤ wn.heap.size := (by omega); clear kn hUn hsn hbn; have cP := cells_of kP; (try simp only [progC, instC, zzT, zzO, zzS] at cP); have fP := frees_of kP))
      all_goals (first | go_end0 | go_ret)
      all_goals exact ⟨ret_bool HE2.out.symm, hU0⟩
end Go.Proofs.Ytigbfgmgdfnhcaa
