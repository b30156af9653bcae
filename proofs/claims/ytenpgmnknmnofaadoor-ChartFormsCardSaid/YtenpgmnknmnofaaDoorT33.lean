/- An entry the other way may be, for every input: the statement's row and its card. -/
import Derived.Test.YtenpgmnknmnofaaDoorRows
import Derived.Test.YtenpgmnknmnofaaDoorCards
import Derived.Test.YtenpgmnknmnofaaDoorTie
import Derived.Test.YtenpgmnknmnofaaDoorWkLift
import Derived.Test.YtenpgmnknmnofaaDoorT32
import Derived.LaidLaws
import Derived.LaidHandle
import Derived.Stop.Joined
import Derived.SevenTiedAt
namespace Go.Proofs.YtenpgmnknmnofaaDoor
open Go.ChangeShapes Go.WideShapes Go.ChangeAt Go.RowKit Go.Joins Go.Wk
theorem own : ownKnob Tryd.prog.godebug = none := by kernel_rfl
theorem kids : Kids Tryd.prog (· < Tryd.prog.types.size) := kids_rows (by kernel_rfl) (by kernel_rfl)
theorem full : ∀ t e, t < Tryd.prog.types.size → Tryd.prog.underlying t = some (.slice e) → 0 < Tryd.prog.cellsOf e := slices_full_of _ (by kernel_rfl)
theorem errVar : Tryd.prog.globalNamed "errors.errorType" = some 0 := by kernel_rfl
theorem rtypeNo : (Tryd.prog.cutTypes.find? (·.1 == "internal/reflectlite.rtype")).map (·.2) = some 121 := by kernel_rfl
theorem errRow : ((List.range 173).filter fun t => Tryd.prog.rowNamed t [101, 114, 114, 111, 114]) = [33] := by kernel_rfl
theorem typesNo : Tryd.prog.types.size = 173 := by kernel_rfl
@[reducible] noncomputable def laidL {H : Type} : List (String × DataW H) := [("errors.errorType", Rows.laid_errors_errorType)]
/-- What the condition gives a walk: the variable's one cell. -/
theorem handle_of_laid {W : World} (h : laidMetH Tryd.prog laidL W) : W.cell? ⟨0, 0, none⟩ = some errTy := by
  have h' : laidMet Tryd.prog [] W ∧ handlesMet Tryd.prog laidL W := h
  obtain ⟨name, u, ty, e1, e2, e3, e4, e5⟩ := h'.2 _ (List.mem_singleton.2 rfl)
  have en : name = [101, 114, 114, 111, 114] := (Option.some.inj e1).symm
  subst en
  obtain rfl := Option.some.inj (rtypeNo.symm.trans e2)
  have hm : ty ∈ (List.range 173).filter fun t => Tryd.prog.rowNamed t [101, 114, 114, 111, 114] := List.mem_filter.2 ⟨List.mem_range.2 (by rw [← typesNo]; exact e3), e4⟩
  rw [errRow] at hm
  obtain rfl := List.mem_singleton.1 hm
  have hh : typeHandle Tryd.prog 33 = .pointer (some ⟨1, 33, none⟩) := by kernel_rfl
  rw [hh] at e5
  simpa using World.var?_cell errVar e5 0
/-- A world that meets the condition. -/
noncomputable def laidWorld (os : Os) : World :=
  let w0 := World.holding Tryd.prog os ⟨#[], #[], []⟩
  { w0 with heap := w0.heap.modify 0 fun
      | .cells _ t frozen => .cells #[errTy] t frozen
      | o => o }
theorem laidWorld_met (os : Os) (args : Array Value) : laidMetH Tryd.prog laidL ((laidWorld os).forCall (fun _ _ => 0) ⟨#[], args, []⟩).memory :=
  laidMetH_of_parts (laidMet_nil _ _) (by kernel_rfl)
section
variable {H : Type} {enc : TypeId × Value → H} {w : World} {base : Nat} {spare : Nat → Bool} {held : Bool}
set_option maxRecDepth 100000 in
theorem open_key {b0 : Nat} {v : Value} {d : DataW H} {p : List MemPlace} (hv : Value.okWide Tryd.prog w .any b0 25 v) (h : DataW.Trod enc Tryd.prog w base spare held 25 v d p) : ∃ k : Key, v = keyV k ∧ keyIn k := by
  obtain ⟨v0, v1, v2, v3, y0, y1, y2, y3, n, rfl, rfl, rfl, h0, h1, h2, h3⟩ := open_agg4 Tryd.underlying25 (by kernel_rfl) (by kernel_rfl) hv h
  obtain ⟨a0, e0, rfl, w0⟩ := DataW.trod_int Tryd.underlying22 h0
  obtain ⟨a1, e1, rfl, w1⟩ := DataW.trod_int Tryd.underlying23 h1
  obtain ⟨a2, e2, rfl, w2⟩ := DataW.trod_int Tryd.underlying5 h2
  obtain ⟨a3, e3, rfl, w3⟩ := DataW.trod_int Tryd.underlying22 h3
  simp only [List.cons.injEq, and_true] at e0 e1 e2 e3
  subst e0 e1 e2 e3
  exact ⟨⟨a0, a1, a2, a3⟩, rfl, inK_of_wf w0, inK_of_wf w1, inK_of_wf w2, inK_of_wf w3⟩
instance : Inhabited Leg := ⟨⟨0, 0⟩⟩
theorem cell_leg : Tryd.prog.cellsOf 40 = 2 := by kernel_rfl
theorem cell_5 : Tryd.prog.cellsOf 5 = 1 := by kernel_rfl
theorem cell_38 : Tryd.prog.cellsOf 38 = 1 := by kernel_rfl
set_option maxRecDepth 100000 in
theorem trod_leg (n : Nat) (cs : List Value) (x : DataW H × List MemPlace) (h : DataW.trod enc Tryd.prog w base spare held n 40 cs = some x) : ∃ (y : Leg) (p : Unit), legR.ok y p ∧ cs = legR.cells y p ∧ All (legR.facts y p) w (oldB w) := by
  obtain ⟨y0, y1, m, _, hl, h0, h1⟩ := trod_struct2 Tryd.underlying40 h
  rw [cell_leg] at hl
  match cs, hl with
  | [a, b], _ =>
    simp only [cell_5, cell_38, List.drop_zero, List.drop_succ_cons, List.take_succ_cons, List.take_zero] at h0 h1
    obtain ⟨a0, e0, _, w0⟩ := DataW.trod_int Tryd.underlying5 h0
    obtain ⟨a1, e1, _, w1⟩ := DataW.trod_int Tryd.underlying38 h1
    simp only [List.cons.injEq, and_true] at e0 e1
    subst e0 e1
    exact ⟨⟨a0, a1⟩, (), ⟨inK_of_wf w0, inK_of_wf w1⟩, rfl, fun f hf => by cases hf⟩
set_option maxRecDepth 100000 in
theorem open_legs {b0 : Nat} {v : Value} {d : DataW H} {p : List MemPlace} (hv : Value.okWide Tryd.prog w .any b0 26 v) (h : DataW.Trod enc Tryd.prog w base spare held 26 v d p) : ∃ A n c ls, v = .slice A n c ∧ (Sl legR (.slice A n c) ls).holds w (oldB w) :=
  sl_of_trod Tryd.underlying26 cell_leg (by decide) trod_leg h (not_agg Tryd.underlying26 hv)
theorem glob_of {W : World} (h : W.cell? ⟨0, 0, none⟩ = some errTy) : (Glob 0 errTy).holds W (oldB W) := ⟨(cell_lt h).1, h⟩
end
set_option maxRecDepth 100000 in
theorem turns_lifted (os : Os) (started : os.Started) (H : Type) (enc : TypeId × Value → H) :
    ReturnsInHanded {} Tryd.checked os 3 .any (fun w args => (Rows.chartTurnsSpec.pre enc Tryd.prog Tryd.f3 [] false w args ∧ laidMetH Tryd.prog laidL w) ∧ sizedMet enc Tryd.prog Tryd.f3 (OpenSpec.ofChange Rows.chartTurnsSpec) false w args)
      (Rows.chartTurnsSpec.post enc Tryd.prog Tryd.f3 false true false false) := by
  refine returnsInHanded_of_change_and (C := Tryd.checked) (X := fun w _ => laidMetH Tryd.prog laidL w) (fun _ _ _ hh h => h.of_heap hh) own started (by kernel_rfl) Tryd.func3
    (ChangeSpec.witness_at (enc := enc) (C := Tryd.checked) (os := os) (X := fun w _ => laidMetH Tryd.prog laidL w) false (laidWorld os) #[.agg #[.int .u32 0, .int .i32 0, .int .u8 0, .int .u32 0], .slice none 0 0] 8 rfl (by kernel_rfl) (by kernel_rfl) (by kernel_rfl) (by kernel_rfl) (by kernel_rfl) (laidWorld_met os _)) ?_
  intro W base args ds gs before hval0 hW _ _ hL _
  have hval : ∀ (j : Nat) t v, Tryd.f3.params[j]? = some t → args[j]? = some v → Value.okWide Tryd.prog W .any base t v := hval0
  have hW' := hW
  obtain ⟨p, q, hA0, hV, rfl, hfz, hnd⟩ := hW
  have hA : DataW.TrodAll enc Tryd.prog W 0 (fun _ => true) true Tryd.f3.params.toList args.toList ds p := hA0
  rw [Tryd.params3] at hA hval
  obtain ⟨v0, v1, d0, d1, p0, p1, rfl, rfl, rfl, h0, h1⟩ := trodAll_two hA
  obtain ⟨k, rfl, hk⟩ := open_key (hval 0 25 v0 rfl rfl) h0
  obtain ⟨A, n, c, ls, rfl, hs⟩ := open_legs (hval 1 26 v1 rfl rfl) h1
  have hg := glob_of (handle_of_laid hL)
  have hH : Hp ⟨W, fun _ => False, oldB W⟩ [] [Sl legR (.slice A n c) ls, Glob 0 errTy] W := hp_old W _ fun f hf => by
    rcases List.mem_cons.1 hf with rfl | hf
    · exact hs
    · rcases List.mem_cons.1 hf with rfl | hf
      · exact hg
      · cases hf
  refine (turnsWalk k hk A n c ls W _ _ hH).2.mono fun e W' ⟨v, he, _, hv, _, hh⟩ => ?_
  subst he
  subst hv
  exact ⟨_, rfl, post_true kids full rfl (by decide) Tryd.underlying4 rfl hW' (fun e => rfl) hh⟩
theorem turns_row : Rows.ChartTurnsSaid :=
  OpenClaim.holds_of_wide 3 Tryd.f3 rfl rfl rfl rfl rfl rfl rfl ⟨rfl, rfl, rfl, rfl, rfl⟩ rfl rfl rfl rfl rfl (by kernel_rfl) Tryd.func3 (by kernel_rfl)
    (of_decide_eq_true (by kernel_rfl)) (by unfold Func.isWrapper; first | (rw [if_pos (by decide +kernel)]; kernel_rfl) | (rw [if_neg (by decide +kernel)]; exact ⟨rfl, rfl⟩) | (rw [if_neg (of_decide_eq_false (by kernel_rfl))]; exact ⟨rfl, rfl⟩))
    (fun os started H enc _ => turns_lifted os started H enc)
theorem turns_card : Rows.ChartTurnsCardSaid :=
  Claim7.holds_tied_plain_at .later [] [.handle] true (true, "054c917d7d2d4d814bf66f8ada166aecf7ac34a9170a71dd03f90ee332534fb5") true
    turns_row (fun _ h => by cases h) (by kernel_rfl) (fun _ h => by cases h) chartTurns_row_tie rfl ⟨rfl, rfl⟩ (by kernel_rfl) rfl
    (fun f fn hf hfn => by
      obtain rfl : f = 3 := Option.some.inj ((show Tryd.prog.funcNamed "arrears/arrearslaw13.ChartTurns" = some 3 by kernel_rfl).symm.trans hf) |>.symm
      obtain rfl : fn = Tryd.f3 := (Option.some.inj (Tryd.func3.symm.trans hfn)).symm
      exact ⟨by kernel_rfl, fun j t ht => by
        rw [Tryd.params3] at ht
        rcases j with _ | _ | j
        · obtain rfl : t = 25 := by simpa using ht.symm
          exact (show Tryd.prog.wantsStandIn 25 = false by kernel_rfl)
        · obtain rfl : t = 26 := by simpa using ht.symm
          exact (show Tryd.prog.wantsStandIn 26 = false by kernel_rfl)
        · simp at ht⟩)
    (by kernel_rfl)
#print axioms turns_card
end Go.Proofs.YtenpgmnknmnofaaDoor
