/- The chapter's examples for registers answer as they are said. -/
import Derived.Test.YtlhcojclfgbobaaRegJ
import Derived.Test.YtlhcojclfgbobaaRegK
namespace Go.Proofs.Ytlhcojclfgbobaa
open Go.RowKit

theorem reg_one (w : World) (l : List UInt8) (s : ByteArray) (hs : s = ⟨l.toArray⟩) (wh : Bool) : RegAt (w.alloc (.cells #[.string s] 9)) (.agg #[.slice (some ⟨w.heap.size, 0, none⟩) 1 1, .bool wh]) ⟨[l], wh⟩ := by
  subst hs
  refine ⟨_, rfl, _, 1, rfl, fun i hi => ?_⟩
  have hi0 : i = 0 := by simp at hi; exact hi
  subst hi0
  exact ⟨w.heap.size, 0, rfl, cell_of (heap_alloc_new w _) 0 rfl⟩

def kM0 : Int → Option RegD := fun _ => none
def kM1 := (yankM kM0 97 ⟨[[120]], true⟩).2
def kM2 := (yankM kM1 65 ⟨[[121]], true⟩).2
def kM3 := (cutM kM2 34 ⟨[[112]], false⟩).2
def kM4 := (cutM kM3 34 ⟨[[113]], false⟩).2
theorem small97 : smallI 97 = 97 := by decide
theorem small34 : smallI 34 = 34 := by decide
theorem kE : kM1 (smallI 65) = some ⟨[[120]], true⟩ := by kernel_rfl
theorem kG1 : getM kM2 97 = (⟨[[120], [121]], true⟩, 0) := by kernel_rfl
theorem kG2 : getM kM4 50 = (⟨[[112]], false⟩, 0) := by kernel_rfl
theorem kG3 : (getM kM4 51).2 = 111 := by kernel_rfl

set_option maxHeartbeats 1000000 in
set_option maxRecDepth 100000 in
theorem known_any (w : World) : Calls Try.prog 10 #[] w fun e w' => e = .returned (.bool true) ∧ Below w.heap.size w w' := by
  have G1 := Lib.hid kG1
  have G2 := Lib.hid kG2
  have G3 := Lib.hid kG3
  go_enter Try.func10, Try.ntmps10
  go_wp2_with (first
    | (go_at_call 11
       refine (New_any w).mono ?_
       rintro e w1 ⟨rfl, hR, hB, hz⟩)
    | (go_at_call_of 12 (Value.int IntKind.u8 97)
       have hX := reg_one w1 [120] ⟨#[120]⟩ rfl true
       have hb := (Below.refl w1.heap.size w1).alloc (Nat.le_refl _) (Obj.cells #[.string ⟨#[120]⟩] 9)
       have hR1 := hR.below hb
       refine (Yank_any _ _ 0 _ _ 97 (by decide) (by decide) _ _ _ hR1 hX (by omega) (by simp) (fun _ hne => absurd small97 hne)).mono ?_
       rintro e w2 ⟨n2, V2, rfl, hR2, hn2, hU2⟩
       replace hR2 : RegsAt w2 (w.heap.size + 1) w.heap.size n2 V2 kM1 := hR2
       have hB2 : Below w.heap.size w w2 := (hB.trans (hb.mono hB.size)).trans (hU2.below (by have := hb.size; have := hB.size; omega) (fun k hk e => by omega))
       have hz2 : w.heap.size + 2 ≤ w2.heap.size := by have := hU2.size; have := hb.size; omega
       clear hR hB hX hb hR1 hU2)
    | (go_at_call_of 12 (Value.int IntKind.u8 65)
       have hX := reg_one w2 [121] ⟨#[121]⟩ rfl true
       have hb := (Below.refl w2.heap.size w2).alloc (Nat.le_refl _) (Obj.cells #[.string ⟨#[121]⟩] 9)
       have hR3 := hR2.below hb
       refine (Yank_any _ _ n2 _ _ 65 (by decide) (by decide) _ _ _ hR3 hX (by omega) (by simp) (fun r _ hr => by have e : kM1 (smallI 65) = some ⟨[[120]], true⟩ := kE; rw [e] at hr; cases hr; exact ⟨by simp [sizeR, sumL], by simp [sizeR, sumL]⟩)).mono ?_
       rintro e w3 ⟨n3, V3, rfl, hR4, hn3, hU3⟩
       replace hR4 : RegsAt w3 (w.heap.size + 1) w.heap.size n3 V3 kM2 := hR4
       have hB3 : Below w.heap.size w w3 := (hB2.trans (hb.mono hB2.size)).trans (hU3.below (by have := hb.size; have := hB2.size; omega) (fun k hk e => by omega))
       have hz3 : w.heap.size + 2 ≤ w3.heap.size := by have := hU3.size; have := hb.size; omega
       clear hR2 hB2 hX hb hR3 hU3)
    | (go_at_call_of 13 (Value.int IntKind.u8 97)
       refine (Get_any _ _ n3 _ _ 97 (by decide) (by decide) _ hR4).mono ?_
       rw [G1.out]
       rintro e w4 ⟨u, rfl, ⟨lv, rfl, a, cap, rfl, hx⟩, hb⟩
       have hR5 := hR4.below hb
       have hB4 := hB3.trans (hb.mono hB3.size)
       have hz4 : w.heap.size + 2 ≤ w4.heap.size := by have := hb.size; omega
       clear hR4 hB3 hb)
    | (go_at_call 15
       have hb := below_two w4 (Obj.cells #[.slice a 2 cap, .bool true] 24) (Obj.cells #[.string ⟨#[112]⟩] 9)
       have hX := reg_one (w4.alloc (Obj.cells #[.slice a 2 cap, .bool true] 24)) [112] ⟨#[112]⟩ rfl false
       rw [show (w4.alloc (Obj.cells #[.slice a 2 cap, .bool true] 24)).heap.size = w4.heap.size + 1 by simp] at hX
       have hk := heap_old (heap_alloc_new w4 (Obj.cells #[.slice a 2 cap, .bool true] 24)) (Obj.cells #[.string ⟨#[112]⟩] 9)
       have hxr : RegAt w4 (.agg #[.slice a 2 cap, .bool true]) ⟨[[120], [121]], true⟩ := ⟨_, rfl, a, cap, rfl, hx⟩
       have hxr2 := hxr.below hb
       have hR6 := hR5.below hb
       have hbs := hb.size
       generalize (w4.alloc (Obj.cells #[.slice a 2 cap, .bool true] 24)).alloc (Obj.cells #[.string ⟨#[112]⟩] 9) = W5 at *
       refine (Cut_any _ _ n3 _ _ 34 (by decide) (by decide) _ _ _ hR6 hX (by omega) (by simp) (fun _ hne => absurd small34 hne)).mono ?_
       rintro e w5 ⟨n5, V5, rfl, hR7, hn5, hU5⟩
       replace hR7 : RegsAt w5 (w.heap.size + 1) w.heap.size n5 V5 kM3 := hR7
       have hB5 : Below w.heap.size w w5 := (hB4.trans (hb.mono hB4.size)).trans (hU5.below (by have := hB4.size; omega) (fun k hk e => by omega))
       have hz5 : w.heap.size + 2 ≤ w5.heap.size := by have := hU5.size; omega
       have hk5 := hU5.heap hk (by omega)
       have hx5 := hxr2.upd hU5 hR6.nocell
       clear hR5 hB4 hX hb hR6 hU5 hk hxr hxr2 hx hbs)
    | (go_at_call 15
       have hX := reg_one w5 [113] ⟨#[113]⟩ rfl false
       have hb := (Below.refl w5.heap.size w5).alloc (Nat.le_refl _) (Obj.cells #[.string ⟨#[113]⟩] 9)
       have hR8 := hR7.below hb
       have hk6 := (false_upd hb).heap hk5 (fun h => h)
       have hx6 := hx5.below hb
       refine (Cut_any _ _ n5 _ _ 34 (by decide) (by decide) _ _ _ hR8 hX (by omega) (by simp) (fun _ hne => absurd small34 hne)).mono ?_
       rintro e w6 ⟨n6, V6, rfl, hR9, hn6, hU6⟩
       replace hR9 : RegsAt w6 (w.heap.size + 1) w.heap.size n6 V6 kM4 := hR9
       have hB6 : Below w.heap.size w w6 := (hB5.trans (hb.mono hB5.size)).trans (hU6.below (by have := hb.size; have := hB5.size; omega) (fun k hk e => by omega))
       have hz6 : w.heap.size + 2 ≤ w6.heap.size := by have := hU6.size; have := hb.size; omega
       have hk7 := hU6.heap hk6 (by omega)
       have hx7 := hx6.upd hU6 hR8.nocell
       clear hR7 hB5 hX hb hR8 hU6 hk5 hk6 hx5 hx6)
    | (go_at_call_of 13 (Value.int IntKind.u8 50)
       refine (Get_any _ _ n6 _ _ 50 (by decide) (by decide) _ hR9).mono ?_
       rw [G2.out]
       rintro e w7 ⟨u, rfl, ⟨lv, rfl, a2, cap2, rfl, hy⟩, hb⟩
       have hR10 := hR9.below hb
       have hB7 := hB6.trans (hb.mono hB6.size)
       have hz7 : w.heap.size + 2 ≤ w7.heap.size := by have := hb.size; omega
       have hk8 := (false_upd hb).heap hk7 (fun h => h)
       have hx8 := hx7.below hb
       clear hR9 hB6 hb hk7 hx7)
    | (go_at_call_of 13 (Value.int IntKind.u8 51)
       have hb := (Below.refl w7.heap.size w7).alloc (Nat.le_refl _) (Obj.cells #[.slice a2 1 cap2, .bool false] 24)
       have hyk := heap_alloc_new w7 (Obj.cells #[.slice a2 1 cap2, .bool false] 24)
       have hR11 := hR10.below hb
       have hk9 := (false_upd hb).heap hk8 (fun h => h)
       have hx9 := hx8.below hb
       have hyr : RegAt w7 (.agg #[.slice a2 1 cap2, .bool false]) ⟨[[112]], false⟩ := ⟨_, rfl, a2, cap2, rfl, hy⟩
       have hy9 := hyr.below hb
       have hB8 := hB7.trans (hb.mono hB7.size)
       generalize w7.alloc (Obj.cells #[.slice a2 1 cap2, .bool false] 24) = W8 at *
       refine (Get_any _ _ n6 _ _ 51 (by decide) (by decide) _ hR11).mono ?_
       rw [G3.out]
       rintro e w9 ⟨u, rfl, ⟨lv, rfl, a3, cap3, rfl, hzz⟩, hb9⟩
       have hB9 := hB8.trans (hb9.mono hB8.size)
       have hk10 := (false_upd hb9).heap hk9 (fun h => h)
       have hyk10 := (false_upd hb9).heap hyk (fun h => h)
       have x0 := cell_of hk10 0 (v := .slice a 2 cap) rfl
       have x1 := cell_of hk10 1 (v := .bool true) rfl
       have y0 := cell_of hyk10 0 (v := .slice a2 1 cap2) rfl
       obtain ⟨_, ex, xa, xc, rfl, hxs⟩ := hx9.below hb9
       obtain ⟨_, ey, ya, yc, rfl, hys⟩ := hy9.below hb9
       cases ex
       cases ey
       obtain ⟨xb, xo, rfl, xcell⟩ := hxs 1 (by simp)
       obtain ⟨yb, yo, rfl, ycell⟩ := hys 0 (by simp)
       replace xcell : w9.cell? ⟨xb, xo + 1, none⟩ = some (.string ⟨#[121]⟩) := xcell
       replace ycell : w9.cell? ⟨yb, yo, none⟩ = some (.string ⟨#[112]⟩) := ycell
       have q0 := fun o => ((Upd.refl (fun _ => False) w9).alloc o).cell x0 (fun h => h)
       have q1 := fun o => ((Upd.refl (fun _ => False) w9).alloc o).cell x1 (fun h => h)
       have q2 := fun o => ((Upd.refl (fun _ => False) w9).alloc o).cell y0 (fun h => h)
       have q3 := fun o => ((Upd.refl (fun _ => False) w9).alloc o).cell xcell (fun h => h)
       have q4 := fun o => ((Upd.refl (fun _ => False) w9).alloc o).cell ycell (fun h => h)
       clear hR10 hR11 hb hyk hk8 hk9 hx8 hx9 hyr hy9 hb9 hB7 hB8 hk10 hyk10 x0 x1 y0 xcell ycell hxs hys hy hzz))
  go_ret
  exact ⟨rfl, hB9.alloc hB9.size _⟩
end Go.Proofs.Ytlhcojclfgbobaa
