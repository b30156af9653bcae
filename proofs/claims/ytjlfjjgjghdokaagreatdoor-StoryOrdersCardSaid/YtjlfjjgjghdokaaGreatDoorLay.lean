/- What all rows and cards of this seat need: the listed variables, worlds that meet them, how arguments read. -/
import Derived.Test.YtjlfjjgjghdokaaGreatDoorRows
import Derived.Test.YtjlfjjgjghdokaaGreatDoorCards
import Derived.Test.YtjlfjjgjghdokaaGreatDoorTie
import Derived.Test.YtjlfjjgjghdokaaGreatDoorG6
import Derived.LaidLaws
import Derived.LaidHandle
import Derived.LaidMore
import Derived.Lay
import Derived.MakeChecks
import Derived.Shelf.Vars
import Derived.Stop.LaidErr
import Derived.Stop.Joined
import Derived.SevenTiedAt
set_option linter.unusedVariables false
namespace Go.Wk
open Go.ChangeShapes Go.WideShapes Go.ChangeAt Go.RowKit Go.Joins
section
variable {H : Type} {enc : TypeId × Value → H} {P : Program} {w : World} {base : Nat} {spare : Nat → Bool} {held : Bool}
theorem trod_struct7 {t : TypeId} {f0 f1 f2 f3 f4 f5 f6 : Field} {fuel : Nat} {cs : List Value} {x : DataW H × List MemPlace} (ht : P.underlying t = some (.struct #[f0, f1, f2, f3, f4, f5, f6])) (h : DataW.trod enc P w base spare held fuel t cs = some x) :
    ∃ y0 y1 y2 y3 y4 y5 y6 n, cs.length = P.cellsOf t ∧ DataW.trod enc P w base spare held n f0.type ((cs.drop f0.offset).take (P.cellsOf f0.type)) = some y0 ∧ DataW.trod enc P w base spare held n f1.type ((cs.drop f1.offset).take (P.cellsOf f1.type)) = some y1 ∧
      DataW.trod enc P w base spare held n f2.type ((cs.drop f2.offset).take (P.cellsOf f2.type)) = some y2 ∧ DataW.trod enc P w base spare held n f3.type ((cs.drop f3.offset).take (P.cellsOf f3.type)) = some y3 ∧ DataW.trod enc P w base spare held n f4.type ((cs.drop f4.offset).take (P.cellsOf f4.type)) = some y4 ∧
      DataW.trod enc P w base spare held n f5.type ((cs.drop f5.offset).take (P.cellsOf f5.type)) = some y5 ∧ DataW.trod enc P w base spare held n f6.type ((cs.drop f6.offset).take (P.cellsOf f6.type)) = some y6 := by
  obtain ⟨xs, n, _, rfl, hl, hlen, hf⟩ := DataW.trod_struct ht h
  match xs, hlen with
  | [y0, y1, y2, y3, y4, y5, y6], _ => exact ⟨y0, y1, y2, y3, y4, y5, y6, n, hl, by simpa using hf 0 f0 rfl, by simpa using hf 1 f1 rfl, by simpa using hf 2 f2 rfl, by simpa using hf 3 f3 rfl, by simpa using hf 4 f4 rfl, by simpa using hf 5 f5 rfl, by simpa using hf 6 f6 rfl⟩
end
/-- The wrap with a condition more and the world's shape kept. -/
theorem handed_shaped {H : Type} {enc : TypeId × Value → H} {a : Assume} {C : Checked} {os : Os} {f : FuncId} {fn : Func} {s : ChangeSpec} {conds : List PathCond} {apart fresh handsOn again : Bool} {X : World → Array Value → Prop}
    (hX : ∀ (w w' : World) (args : Array Value), w.heap = w'.heap → X w args → X w' args)
    (own : ownKnob C.prog.godebug = none) (started : os.Started) (noInit : C.prog.inits.idxOf? f = none) (hfn : C.prog.funcs[f]? = some fn)
    (witness : ∃ (w : World) (tape : Tape) (i : Input), w.os = os ∧ (w.forCall tape i).Shaped C.prog ∧ i.vars = [] ∧ Input.okWide C.prog (w.forCall tape i) .any w.heap.size f i ∧
      ((s.pre enc C.prog fn conds apart (w.forCall tape i).memory i.args ∧ X (w.forCall tape i).memory i.args) ∧ sizedMet enc C.prog fn (OpenSpec.ofChange s) apart (w.forCall tape i).memory i.args) ∧ a.holds C.prog (lone (Frame.enter C.prog f i.args .normal) [] (w.forCall tape i)))
    (contract : ∀ (W : World) (base : Nat) (args : Array Value) (ds gs : List (DataW H)) (before : List MemPlace),
      (∀ (j : Nat) t v, fn.params[j]? = some t → args[j]? = some v → Value.okWide C.prog W .any base t v) →
      DataW.Whole enc C.prog fn.params.toList s.vars apart W args.toList ds gs before →
      X W args → W.ShapedOpen C.prog →
      Calls C.prog f args W fun e W' => ∃ v, e = .returned v ∧ s.post enc C.prog fn apart fresh handsOn again W args v W') :
    ReturnsInHanded a C os f .any (fun w args => (s.pre enc C.prog fn conds apart w args ∧ X w args) ∧ sizedMet enc C.prog fn (OpenSpec.ofChange s) apart w args) (s.post enc C.prog fn apart fresh handsOn again) := by
  refine returnsInHanded_of_calls own started noInit witness ?_
  intro w tape i _ hsh _ hok hpre _
  obtain ⟨_, _, _, fn', hfn', _, _, _, _, hval⟩ := hok
  have e : fn' = fn := Option.some.inj (hfn'.symm.trans hfn)
  subst e
  obtain ⟨⟨⟨ds, gs, before, hw, hc⟩, hx⟩, hz⟩ := hpre
  have hw' := DataW.Whole.of_heap (w' := w.forCall tape i) (by rfl) hw
  refine (contract (w.forCall tape i) w.heap.size i.args ds gs before hval hw' (hX _ _ _ (by rfl) hx) hsh).mono fun e W' ⟨v, he, hp⟩ => ?_
  subst he
  exact ChangeSpec.post_blind hp
end Go.Wk
namespace Go.Proofs.YtjlfjjgjghdokaaGreatDoor
open Go.ChangeShapes Go.WideShapes Go.ChangeAt Go.RowKit Go.Joins Go.Wk
theorem ownK : ownKnob Tryz.prog.godebug = none := by kernel_rfl
theorem kids : Kids Tryz.prog (· < Tryz.prog.types.size) := kids_rows (by kernel_rfl) (by kernel_rfl)
theorem full : ∀ t e, t < Tryz.prog.types.size → Tryz.prog.underlying t = some (.slice e) → 0 < Tryz.prog.cellsOf e := slices_full_of _ (by kernel_rfl)
@[reducible] noncomputable def laid7 : List (String × DataW Unit) := [("math/bits.deBruijn32tab", Rows.laid_math_bits_deBruijn32tab), ("math/bits.deBruijn64tab", Rows.laid_math_bits_deBruijn64tab), ("internal/strconv.uint64pow10", Rows.laid_internal_strconv_uint64pow10), ("unicode/utf8.acceptRanges", Rows.laid_unicode_utf8_acceptRanges), ("strconv.ErrRange", Rows.laid_strconv_ErrRange), ("strconv.ErrSyntax", Rows.laid_strconv_ErrSyntax), ("unicode/utf8.first", Rows.laid_unicode_utf8_first)]
theorem plain7 (W : World) : laidMetH Tryz.prog laid7 W = laidMet Tryz.prog laid7 W := MakeChecks.laidMetH_plain _ _ _ (by kernel_rfl)
theorem maxLenCell {W : World} (h : W.ShapedOpen Tryz.prog) : ∃ m, W.cell? ⟨3, 0, none⟩ = some (.int .i64 m) :=
  cell_of_shapedOpen_int (t := 3) (zero := #[.int .i64 0]) h (of_decide_eq_true (by kernel_rfl)) (by kernel_rfl) rfl (by kernel_rfl) (by kernel_rfl) Tryz.underlying3
theorem row391 (u : TypeId) (h : Tryz.prog.typeName? 3 u = some "*errors.errorString") : u = 391 :=
  typeName_ptr_named (nm := "errors.errorString") (by kernel_rfl) (by kernel_rfl) (by decide) u h
theorem libF_of_laid {W : World} (h : laidMet Tryz.prog laid7 W) (hs : W.ShapedOpen Tryz.prog) : LibF.holds W (oldB W) := by
  obtain ⟨m, hm⟩ := maxLenCell hs
  have ht := Lib.tabIs_of_head (g := 8) (k := .u64) (zs := Lib.pow10Tab) (t := 409) (e := 42) (n := 20) gPow (by kernel_rfl) (by kernel_rfl) (by kernel_rfl) (by kernel_rfl) (by kernel_rfl) h.tail.tail
  obtain ⟨a0, s0, hv0, _⟩ := laid_sentinel (g := 1) h.tail.tail.tail.tail (by kernel_rfl) (by kernel_rfl) Tryz.underlying37 row391 Tryz.underlying391 Tryz.underlying393 rfl rfl Tryz.underlying9 (by kernel_rfl) (by kernel_rfl)
  obtain ⟨a1, s1, hv1, _⟩ := laid_sentinel (g := 2) h.tail.tail.tail.tail.tail (by kernel_rfl) (by kernel_rfl) Tryz.underlying37 row391 Tryz.underlying391 Tryz.underlying393 rfl rfl Tryz.underlying9 (by kernel_rfl) (by kernel_rfl)
  have c0 : W.cell? ⟨1, 0, none⟩ = some (.iface 391 (.pointer (some a0))) := by simpa using World.var?_cell (show Tryz.prog.globalNamed "strconv.ErrRange" = some 1 by kernel_rfl) hv0 0
  have c3 : W.cell? ⟨2, 0, none⟩ = some (.iface 391 (.pointer (some a1))) := by simpa using World.var?_cell (show Tryz.prog.globalNamed "strconv.ErrSyntax" = some 2 by kernel_rfl) hv1 0
  have c2 := ht.cell gPow 0 (by decide)
  exact ⟨m, some a1, some a0, ⟨(cell_lt hm).1, hm⟩, ⟨(cell_lt c3).1, c3⟩, ⟨(cell_lt c0).1, c0⟩, ⟨(cell_lt c2).1, ht⟩⟩
@[reducible] def libs7 : List Fact := [LibF]
theorem hpLaid7 {W : World} (h0 : laidMetH Tryz.prog laid7 W) (hs : W.ShapedOpen Tryz.prog) (F : List Fact) (hF : All F W (oldB W)) : Hp ⟨W, fun _ => False, oldB W⟩ [] (F ++ libs7) W := hp_old W _ fun f hf => by
  have h : laidMet Tryz.prog laid7 W := cast (plain7 W) h0
  rcases List.mem_append.1 hf with h1 | h1
  · exact hF f h1
  · rw [List.mem_singleton.1 h1]; exact libF_of_laid h hs

noncomputable def world7 (os : Os) : World := World.laidAll Tryz.prog os laid7
theorem world7_os (os : Os) : (world7 os).os = os := World.laidAll_os _ _ _
set_option maxRecDepth 100000 in
set_option maxHeartbeats 2000000 in
theorem shaped7 (os : Os) (args : Array Value) : ((world7 os).forCall (fun _ _ => 0) ⟨#[], args, []⟩).Shaped Tryz.prog := by
  have h : (world7 os).Shaped Tryz.prog := World.shaped_of_ZipB (by kernel_rfl) (by kernel_rfl)
  exact h
set_option maxRecDepth 100000 in
set_option maxHeartbeats 2000000 in
theorem met7 (os : Os) (args : Array Value) : laidMetH Tryz.prog laid7 ((world7 os).forCall (fun _ _ => 0) ⟨#[], args, []⟩).memory := by
  exact cast (plain7 _).symm (laidMet_laidAll _ (by kernel_rfl) (by kernel_rfl))
section
variable {H : Type} {enc : TypeId × Value → H} {w : World} {base : Nat} {spare : Nat → Bool} {held : Bool}
instance : Inhabited Tm := ⟨tm0⟩
theorem cell_5 : Tryz.prog.cellsOf 5 = 1 := by kernel_rfl
theorem cell_3 : Tryz.prog.cellsOf 3 = 1 := by kernel_rfl
theorem cell_22 : Tryz.prog.cellsOf 22 = 1 := by kernel_rfl
theorem cell_23 : Tryz.prog.cellsOf 23 = 1 := by kernel_rfl
theorem cell_25 : Tryz.prog.cellsOf 25 = 2 := by kernel_rfl
theorem cell_26 : Tryz.prog.cellsOf 26 = 1 := by kernel_rfl
theorem cell_28 : Tryz.prog.cellsOf 28 = 8 := by kernel_rfl
theorem trod_u8 (n : Nat) (cs : List Value) (x : DataW H × List MemPlace) (h : DataW.trod enc Tryz.prog w base spare held n 5 cs = some x) : ∃ (y : Int) (p : Unit), u8R.ok y p ∧ cs = u8R.cells y p ∧ All (u8R.facts y p) w (oldB w) := by
  obtain ⟨a0, e0, _, w0⟩ := DataW.trod_int Tryz.underlying5 h
  exact ⟨a0, (), inK_of_wf w0, e0, fun f hf => by cases hf⟩
set_option maxRecDepth 100000 in
theorem open_u8s {b0 : Nat} {v : Value} {d : DataW H} {p : List MemPlace} (hv : Value.okWide Tryz.prog w .any b0 59 v) (h : DataW.Trod enc Tryz.prog w base spare held 59 v d p) : ∃ A n c ls, v = .slice A n c ∧ (Sl u8R (.slice A n c) ls).holds w (oldB w) :=
  sl_of_trod Tryz.underlying59 cell_5 (by decide) trod_u8 h (not_agg Tryz.underlying59 hv)
set_option maxRecDepth 100000 in
theorem trod_tm {n : Nat} {cs : List Value} {x : DataW H × List MemPlace} (h : DataW.trod enc Tryz.prog w base spare held n 28 cs = some x) : ∃ t : Tm, cs = tmC t ∧ TmIn t := by
  obtain ⟨y0, y1, y2, y3, y4, y5, y6, m, hl, h0, h1, h2, h3, h4, h5, h6⟩ := trod_struct7 Tryz.underlying28 h
  rw [cell_28] at hl
  match cs, hl with
  | [c0, c1, c2, c3, c4, c5, c6, c7], _ =>
    simp only [cell_5, cell_3, cell_22, cell_25, cell_26, List.drop_zero, List.drop_succ_cons, List.take_succ_cons, List.take_zero] at h0 h1 h2 h3 h4 h5 h6
    obtain ⟨z0, z1, m', _, _, k0, k1⟩ := trod_struct2 Tryz.underlying25 h2
    simp only [cell_23, cell_5, List.drop_zero, List.drop_succ_cons, List.take_succ_cons, List.take_zero] at k0 k1
    obtain ⟨a0, e0, _, w0⟩ := DataW.trod_int Tryz.underlying5 h0
    obtain ⟨a1, e1, _, w1⟩ := DataW.trod_int Tryz.underlying22 h1
    obtain ⟨b0, f0, _, u0⟩ := DataW.trod_int Tryz.underlying23 k0
    obtain ⟨b1, f1, _, u1⟩ := DataW.trod_int Tryz.underlying5 k1
    obtain ⟨a3, e3, _, w3⟩ := DataW.trod_int Tryz.underlying3 h3
    obtain ⟨a4, e4, _, w4⟩ := DataW.trod_int Tryz.underlying26 h4
    obtain ⟨a5, e5, _, w5⟩ := DataW.trod_int Tryz.underlying22 h5
    obtain ⟨a6, e6, _, w6⟩ := DataW.trod_int Tryz.underlying3 h6
    simp only [List.cons.injEq, and_true] at e0 e1 e3 e4 e5 e6 f0 f1
    subst e0 e1 e3 e4 e5 e6 f0 f1
    exact ⟨⟨a0, a1, b0, b1, a3, a4, a5, a6⟩, rfl, inK_of_wf w0, inK_of_wf w1, inK_of_wf u0, inK_of_wf u1, inK_of_wf w3, inK_of_wf w4, inK_of_wf w5, inK_of_wf w6⟩
set_option maxRecDepth 100000 in
theorem open_tm {b0 : Nat} {v : Value} {d : DataW H} {p : List MemPlace} (hv : Value.okWide Tryz.prog w .any b0 28 v) (h : DataW.Trod enc Tryz.prog w base spare held 28 v d p) : ∃ t : Tm, v = tmV t ∧ TmIn t := by
  obtain ⟨cs, rfl, hsz⟩ := okWide_struct Tryz.underlying28 hv
  obtain ⟨n, hn⟩ := h
  obtain ⟨t, e, hin⟩ := trod_tm hn
  refine ⟨t, ?_, hin⟩
  have e : cs.toList = tmC t := e
  have e2 : cs = (tmC t).toArray := by rw [← e]
  rw [e2]
end
end Go.Proofs.YtjlfjjgjghdokaaGreatDoor
