/- Orders as arguments of a row. -/
import Derived.Test.YtgbmambkgcjhfaaGreatDoorLayH
import Derived.Test.YtgbmambkgcjhfaaGreatDoorD39
set_option linter.unusedVariables false
namespace Go.Proofs.YtgbmambkgcjhfaaGreatDoor
open Go.ChangeShapes Go.WideShapes Go.ChangeAt Go.RowKit Go.Joins Go.Wk
section
variable {H : Type} {enc : TypeId × Value → H} {w : World} {base : Nat} {spare : Nat → Bool} {held : Bool}
theorem cell_30 : Tryz.prog.cellsOf 30 = 4 := by kernel_rfl
theorem cell_32 : Tryz.prog.cellsOf 32 = 14 := by kernel_rfl
set_option maxRecDepth 100000 in
theorem trod_ev {n : Nat} {cs : List Value} {x : DataW H × List MemPlace} (h : DataW.trod enc Tryz.prog w base spare held n 30 cs = some x) : ∃ e : Ev, cs = evC e ∧ EvIn e := by
  obtain ⟨y0, y1, y2, y3, m, _, hl, h0, h1, h2, h3⟩ := trod_struct4 Tryz.underlying30 h
  rw [cell_30] at hl
  match cs, hl with
  | [c0, c1, c2, c3], _ =>
    simp only [cell_5, cell_22, cell_23, cell_26, List.drop_zero, List.drop_succ_cons, List.take_succ_cons, List.take_zero] at h0 h1 h2 h3
    obtain ⟨a0, e0, _, w0⟩ := DataW.trod_int Tryz.underlying22 h0
    obtain ⟨a1, e1, _, w1⟩ := DataW.trod_int Tryz.underlying26 h1
    obtain ⟨a2, e2, _, w2⟩ := DataW.trod_int Tryz.underlying5 h2
    obtain ⟨a3, e3, _, w3⟩ := DataW.trod_int Tryz.underlying23 h3
    simp only [List.cons.injEq, and_true] at e0 e1 e2 e3
    subst e0 e1 e2 e3
    exact ⟨⟨a0, a1, a2, a3⟩, rfl, inK_of_wf w0, inK_of_wf w1, inK_of_wf w2, inK_of_wf w3⟩
set_option maxRecDepth 100000 in
theorem trod_od {n : Nat} {cs : List Value} {x : DataW H × List MemPlace} (h : DataW.trod enc Tryz.prog w base spare held n 32 cs = some x) : ∃ o : Od, cs = odC o ∧ OdIn o := by
  obtain ⟨y0, y1, y2, y3, m, _, hl, h0, h1, h2, h3⟩ := trod_struct4 Tryz.underlying32 h
  rw [cell_32] at hl
  match cs, hl with
  | [c0, c1, c2, c3, c4, c5, c6, c7, c8, c9, d0, d1, d2, d3], _ =>
    simp only [cell_5, cell_22, cell_28, cell_30, List.drop_zero, List.drop_succ_cons, List.take_succ_cons, List.take_zero] at h0 h1 h2 h3
    obtain ⟨a0, e0, _, w0⟩ := DataW.trod_int Tryz.underlying5 h0
    obtain ⟨a1, e1, _, w1⟩ := DataW.trod_int Tryz.underlying22 h1
    obtain ⟨t, et, ht⟩ := trod_tm h2
    obtain ⟨v, ev, hv⟩ := trod_ev h3
    simp only [List.cons.injEq, and_true] at e0 e1 et ev
    obtain ⟨t0, t1, t2, t3, t4, t5, t6, t7⟩ := et
    obtain ⟨v0, v1, v2, v3⟩ := ev
    subst e0 e1 t0 t1 t2 t3 t4 t5 t6 t7 v0 v1 v2 v3
    exact ⟨⟨a0, a1, t, v⟩, rfl, inK_of_wf w0, inK_of_wf w1, ht, hv⟩
set_option maxRecDepth 100000 in
theorem open_od {b0 : Nat} {v : Value} {d : DataW H} {p : List MemPlace} (hv : Value.okWide Tryz.prog w .any b0 32 v) (h : DataW.Trod enc Tryz.prog w base spare held 32 v d p) : ∃ o : Od, v = odV o ∧ OdIn o := by
  obtain ⟨cs, rfl, hsz⟩ := okWide_struct Tryz.underlying32 hv
  obtain ⟨n, hn⟩ := h
  obtain ⟨o, e, hin⟩ := trod_od hn
  refine ⟨o, ?_, hin⟩
  have e : cs.toList = odC o := e
  have e2 : cs = (odC o).toArray := by rw [← e]
  rw [e2]
end
end Go.Proofs.YtgbmambkgcjhfaaGreatDoor
