/- How the arguments of the ledger's laws are read: keys, legs, acts. -/
import Derived.Test.YtfemfomgmopibaaGreatDoorLay
namespace Go.Proofs.YtfemfomgmopibaaGreatDoor
open Go.ChangeShapes Go.WideShapes Go.ChangeAt Go.RowKit Go.Joins Go.Wk
section
variable {H : Type} {enc : TypeId × Value → H} {w : World} {base : Nat} {spare : Nat → Bool} {held : Bool}
set_option maxRecDepth 100000 in
theorem open_key {b0 : Nat} {v : Value} {d : DataW H} {p : List MemPlace} (hv : Value.okWide Tryz.prog w .any b0 26 v) (h : DataW.Trod enc Tryz.prog w base spare held 26 v d p) : ∃ k : Key, v = keyV k ∧ keyIn k := by
  obtain ⟨v0, v1, v2, v3, y0, y1, y2, y3, n, rfl, rfl, rfl, h0, h1, h2, h3⟩ := open_agg4 Tryz.underlying26 (by kernel_rfl) (by kernel_rfl) hv h
  obtain ⟨a0, e0, rfl, w0⟩ := DataW.trod_int Tryz.underlying23 h0
  obtain ⟨a1, e1, rfl, w1⟩ := DataW.trod_int Tryz.underlying24 h1
  obtain ⟨a2, e2, rfl, w2⟩ := DataW.trod_int Tryz.underlying5 h2
  obtain ⟨a3, e3, rfl, w3⟩ := DataW.trod_int Tryz.underlying23 h3
  simp only [List.cons.injEq, and_true] at e0 e1 e2 e3
  subst e0 e1 e2 e3
  exact ⟨⟨a0, a1, a2, a3⟩, rfl, inK_of_wf w0, inK_of_wf w1, inK_of_wf w2, inK_of_wf w3⟩
instance : Inhabited Leg := ⟨⟨0, 0⟩⟩
instance : Inhabited Act := ⟨⟨0, ⟨0, 0, 0, 0⟩, [], false, 0⟩⟩
theorem cell_leg : Tryz.prog.cellsOf 43 = 2 := by kernel_rfl
theorem cell_act : Tryz.prog.cellsOf 36 = 8 := by kernel_rfl
theorem cell_key : Tryz.prog.cellsOf 26 = 4 := by kernel_rfl
theorem cell_5 : Tryz.prog.cellsOf 5 = 1 := by kernel_rfl
theorem cell_4 : Tryz.prog.cellsOf 4 = 1 := by kernel_rfl
theorem cell_23 : Tryz.prog.cellsOf 23 = 1 := by kernel_rfl
theorem cell_24 : Tryz.prog.cellsOf 24 = 1 := by kernel_rfl
theorem cell_34 : Tryz.prog.cellsOf 34 = 1 := by kernel_rfl
theorem cell_41 : Tryz.prog.cellsOf 41 = 1 := by kernel_rfl
set_option maxRecDepth 100000 in
theorem trod_leg (n : Nat) (cs : List Value) (x : DataW H × List MemPlace) (h : DataW.trod enc Tryz.prog w base spare held n 43 cs = some x) : ∃ (y : Leg) (p : Unit), legR.ok y p ∧ cs = legR.cells y p ∧ All (legR.facts y p) w (oldB w) := by
  obtain ⟨y0, y1, m, _, hl, h0, h1⟩ := trod_struct2 Tryz.underlying43 h
  rw [cell_leg] at hl
  match cs, hl with
  | [a, b], _ =>
    simp only [cell_5, cell_41, List.drop_zero, List.drop_succ_cons, List.take_succ_cons, List.take_zero] at h0 h1
    obtain ⟨a0, e0, _, w0⟩ := DataW.trod_int Tryz.underlying5 h0
    obtain ⟨a1, e1, _, w1⟩ := DataW.trod_int Tryz.underlying41 h1
    simp only [List.cons.injEq, and_true] at e0 e1
    subst e0 e1
    exact ⟨⟨a0, a1⟩, (), ⟨inK_of_wf w0, inK_of_wf w1⟩, rfl, fun f hf => by cases hf⟩
set_option maxRecDepth 100000 in
theorem trod_act (n : Nat) (cs : List Value) (x : DataW H × List MemPlace) (h : DataW.trod enc Tryz.prog w base spare held n 36 cs = some x) : ∃ (y : Act) (p : Option Addr × Nat × Nat), actR.ok y p ∧ cs = actR.cells y p ∧ All (actR.facts y p) w (oldB w) := by
  obtain ⟨y0, y1, y2, y3, y4, m, hl, h0, h1, h2, h3, h4⟩ := trod_struct5 Tryz.underlying36 h
  rw [cell_act] at hl
  match cs, hl with
  | [c0, c1, c2, c3, c4, c5, c6, c7], _ =>
    simp only [cell_5, cell_4, cell_key, cell_34, List.drop_zero, List.drop_succ_cons, List.take_succ_cons, List.take_zero] at h0 h1 h2 h3 h4
    obtain ⟨a0, e0, _, w0⟩ := DataW.trod_int Tryz.underlying5 h0
    obtain ⟨z0, z1, z2, z3, m', _, _, k0, k1, k2, k3⟩ := trod_struct4 Tryz.underlying26 h1
    simp only [cell_23, cell_24, cell_5, List.drop_zero, List.drop_succ_cons, List.take_succ_cons, List.take_zero] at k0 k1 k2 k3
    obtain ⟨b0, f0, _, u0⟩ := DataW.trod_int Tryz.underlying23 k0
    obtain ⟨b1, f1, _, u1⟩ := DataW.trod_int Tryz.underlying24 k1
    obtain ⟨b2, f2, _, u2⟩ := DataW.trod_int Tryz.underlying5 k2
    obtain ⟨b3, f3, _, u3⟩ := DataW.trod_int Tryz.underlying23 k3
    obtain ⟨A, l, c, ls, f4, hs⟩ := sl_of_cells (r := legR) Tryz.underlying34 cell_leg (by decide) trod_leg h2
    obtain ⟨r, f5, _⟩ := DataW.trod_bool Tryz.underlying4 h3
    obtain ⟨a1, e1, _, w1⟩ := DataW.trod_int Tryz.underlying5 h4
    simp only [List.cons.injEq, and_true] at e0 e1 f0 f1 f2 f3 f4 f5
    subst e0 e1 f0 f1 f2 f3 f4 f5
    have hb := inK_of_wf w1
    simp only [inK, kLo, kHi] at hb
    refine ⟨⟨a0, ⟨b0, b1, b2, b3⟩, ls, r, a1.toNat⟩, (A, l, c), ⟨⟨inK_of_wf u0, inK_of_wf u1, inK_of_wf u2, inK_of_wf u3⟩, by show a1.toNat ≤ 255; omega⟩, ?_, fun f hf => ?_⟩
    · have e : ((a1.toNat : Nat) : Int) = a1 := Int.toNat_of_nonneg hb.1
      simp only [e]
    · rw [List.mem_singleton] at hf
      subst hf
      exact hs
set_option maxRecDepth 100000 in
theorem open_acts {b0 : Nat} {v : Value} {d : DataW H} {p : List MemPlace} (hv : Value.okWide Tryz.prog w .any b0 22 v) (h : DataW.Trod enc Tryz.prog w base spare held 22 v d p) : ∃ A n c xs, v = .slice A n c ∧ (Sl actR (.slice A n c) xs).holds w (oldB w) :=
  sl_of_trod Tryz.underlying22 cell_act (by decide) trod_act h (not_agg Tryz.underlying22 hv)
end
end Go.Proofs.YtfemfomgmopibaaGreatDoor
