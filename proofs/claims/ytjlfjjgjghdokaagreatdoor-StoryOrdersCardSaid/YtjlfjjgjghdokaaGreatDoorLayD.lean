/- How the deeds of the stories' laws are read. -/
import Derived.Test.YtjlfjjgjghdokaaGreatDoorLay
import Derived.Test.YtjlfjjgjghdokaaGreatDoorE15
import Derived.Deep.Strs
namespace Go.Proofs.YtjlfjjgjghdokaaGreatDoor
open Go.ChangeShapes Go.WideShapes Go.ChangeAt Go.RowKit Go.Joins Go.Wk
section
variable {H : Type} {enc : TypeId × Value → H} {w : World} {base : Nat} {spare : Nat → Bool} {held : Bool}
theorem cell_130 : Tryz.prog.cellsOf 130 = 3 := by kernel_rfl
theorem cell_29 : Tryz.prog.cellsOf 29 = 1 := by kernel_rfl
set_option maxRecDepth 100000 in
theorem trod_deed (n : Nat) (cs : List Value) (x : DataW H × List MemPlace) (h : DataW.trod enc Tryz.prog w base spare held n 130 cs = some x) : ∃ (y : Deed) (p : Unit), deedR.ok y p ∧ cs = deedR.cells y p ∧ All (deedR.facts y p) w (oldB w) := by
  obtain ⟨y0, y1, y2, m, _, hl, h0, h1, h2⟩ := Go.Deep.trod_struct3 Tryz.underlying130 h
  rw [cell_130] at hl
  match cs, hl with
  | [a, b, c], _ =>
    simp only [cell_5, cell_29, cell_23, List.drop_zero, List.drop_succ_cons, List.take_succ_cons, List.take_zero] at h0 h1 h2
    obtain ⟨a0, e0, _, w0⟩ := DataW.trod_int Tryz.underlying5 h0
    obtain ⟨a1, e1, _, w1⟩ := DataW.trod_int Tryz.underlying29 h1
    obtain ⟨a2, e2, _, w2⟩ := DataW.trod_int Tryz.underlying23 h2
    simp only [List.cons.injEq, and_true] at e0 e1 e2
    subst e0 e1 e2
    exact ⟨⟨a0, a1, a2⟩, (), ⟨inK_of_wf w0, inK_of_wf w1, inK_of_wf w2⟩, rfl, fun f hf => by cases hf⟩
set_option maxRecDepth 100000 in
theorem open_deeds {b0 : Nat} {v : Value} {d : DataW H} {p : List MemPlace} (hv : Value.okWide Tryz.prog w .any b0 58 v) (h : DataW.Trod enc Tryz.prog w base spare held 58 v d p) : ∃ A n c xs, v = .slice A n c ∧ (Sl deedR (.slice A n c) xs).holds w (oldB w) :=
  sl_of_trod Tryz.underlying58 cell_130 (by decide) trod_deed h (not_agg Tryz.underlying58 hv)
end
end Go.Proofs.YtjlfjjgjghdokaaGreatDoor
