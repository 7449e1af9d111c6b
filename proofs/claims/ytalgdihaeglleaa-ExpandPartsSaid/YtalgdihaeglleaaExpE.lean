/- Contract of what is said of letters. -/
import Derived.Test.YtalgdihaeglleaaExpC
namespace Go.Proofs.Ytalgdihaeglleaa
open Go.RowKit

def SayPost (w : World) (b : Nat) (dv lv : Value) (y : Wr) (e : Ending) (w' : World) : Prop :=
  e = .returned (.tuple #[]) ∧ WrAt w' b dv lv y ∧ Upd (fun k => k = b) w w'

theorem say_close2 {w : World} {b : Nat} {dv lv : Value} {x y : Wr} (hW : WrAt w b dv lv x) (m m2 : Value) (hm : m = modeV y.next) (hm2 : m2 = modeV y.all) (hd : y.done = x.done) (hl : y.line = x.line) :
    WrAt ((w.setCell ⟨b, 2, none⟩ m).setCell ⟨b, 3, none⟩ m2) b dv lv y ∧ Upd (fun k => k = b) w ((w.setCell ⟨b, 2, none⟩ m).setCell ⟨b, 3, none⟩ m2) := by
  refine ⟨⟨?_, ?_, ?_, hW.nd, hW.nl, hW.nn⟩, ((Upd.refl (fun k => k = b) _).setCell (p := ⟨b, 2, none⟩) (fun _ => rfl) _).setCell (p := ⟨b, 3, none⟩) (fun _ => rfl) _⟩
  · rw [heap_set (heap_set hW.blk 2 _) 3, hm, hm2]; rfl
  · rw [hd]; exact ownsRow_set (ownsRow_set hW.hd hW.nd _) hW.nd _
  · rw [hl]; exact ownsRow_set (ownsRow_set hW.hl hW.nl _) hW.nl _
theorem say_close1 {w : World} {b : Nat} {dv lv : Value} {x y : Wr} (hW : WrAt w b dv lv x) (m : Value) (hm : m = modeV y.next) (ha : y.all = x.all) (hd : y.done = x.done) (hl : y.line = x.line) :
    WrAt (w.setCell ⟨b, 2, none⟩ m) b dv lv y ∧ Upd (fun k => k = b) w (w.setCell ⟨b, 2, none⟩ m) := by
  refine ⟨⟨?_, ?_, ?_, hW.nd, hW.nl, hW.nn⟩, ((Upd.refl (fun k => k = b) _).setCell (p := ⟨b, 2, none⟩) (fun _ => rfl) _)⟩
  · rw [heap_set hW.blk 2 _, hm, ha]; rfl
  · rw [hd]; exact ownsRow_set hW.hd hW.nd _
  · rw [hl]; exact ownsRow_set hW.hl hW.nl _

set_option maxRecDepth 100000 in
set_option maxHeartbeats 4000000 in
theorem say_any (b : Nat) (dv lv : Value) (x : Wr) (c : Int) (w : World) (h : WrAt w b dv lv x) :
    Calls Try.prog 16 #[.pointer (some ⟨b, 0, none⟩), .int .u8 c] w (SayPost w b dv lv (x.say c)) := by
  have HW := Lib.hid h
  have hb := h.blk
  clear h
  have d2 := cell_of hb 2 (v := modeV x.next) rfl
  have d3 := cell_of hb 3 (v := modeV x.all) rfl
  have f2 := free_of hb 2
  have f3 := free_of hb 3
  clear hb
  by_cases h1 : c = 117
  · subst h1
    go_enter Try.func16, Try.ntmps16
    go_wp2
    go_end0
    exact ⟨rfl, say_close1 HW.out _ rfl rfl rfl rfl⟩
  by_cases h2 : c = 108
  · subst h2
    go_enter Try.func16, Try.ntmps16
    go_wp2
    go_end0
    exact ⟨rfl, say_close1 HW.out _ rfl rfl rfl rfl⟩
  by_cases h3 : c = 85
  · subst h3
    go_enter Try.func16, Try.ntmps16
    go_wp2
    go_end0
    exact ⟨rfl, say_close2 HW.out _ _ rfl rfl rfl rfl⟩
  by_cases h4 : c = 76
  · subst h4
    go_enter Try.func16, Try.ntmps16
    go_wp2
    go_end0
    exact ⟨rfl, say_close2 HW.out _ _ rfl rfl rfl rfl⟩
  have hs : x.say c = { x with next := none, all := none } := by simp [Wr.say, h1, h2, h3, h4]
  go_enter Try.func16, Try.ntmps16
  go_wp2
  go_end0
  exact ⟨rfl, say_close2 HW.out _ _ (by rw [hs]; rfl) (by rw [hs]; rfl) (by rw [hs]) (by rw [hs])⟩
end Go.Proofs.Ytalgdihaeglleaa
