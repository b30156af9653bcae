/- Legs of any order make the document's entry, for every input: the statement. -/
import Derived.Test.YtenpgmnknmnofaaRows
import Derived.Test.YtenpgmnknmnofaaWkLift
import Derived.Test.YtenpgmnknmnofaaT10
import Derived.Test.YtenpgmnknmnofaaT18
namespace Go.Proofs.Ytenpgmnknmnofaa
open Go.ChangeShapes Go.WideShapes Go.ChangeAt Go.RowKit Go.Joins Go.Wk
theorem kids : Kids Try.prog (· < Try.prog.types.size) := kids_rows (by kernel_rfl) (by kernel_rfl)
theorem full : ∀ t e, t < Try.prog.types.size → Try.prog.underlying t = some (.slice e) → 0 < Try.prog.cellsOf e := slices_full_of _ (by kernel_rfl)
instance : Inhabited Leg := ⟨⟨0, 0⟩⟩
section
variable {H : Type} {enc : TypeId × Value → H} {w : World} {base : Nat} {spare : Nat → Bool} {held : Bool}
theorem cell_leg : Try.prog.cellsOf 50 = 2 := by kernel_rfl
theorem cell_5 : Try.prog.cellsOf 5 = 1 := by kernel_rfl
theorem cell_48 : Try.prog.cellsOf 48 = 1 := by kernel_rfl
set_option maxRecDepth 100000 in
theorem trod_leg (n : Nat) (cs : List Value) (x : DataW H × List MemPlace) (h : DataW.trod enc Try.prog w base spare held n 50 cs = some x) : ∃ (y : Leg) (p : Unit), legR.ok y p ∧ cs = legR.cells y p ∧ All (legR.facts y p) w (oldB w) := by
  obtain ⟨y0, y1, m, _, hl, h0, h1⟩ := trod_struct2 Try.underlying50 h
  rw [cell_leg] at hl
  match cs, hl with
  | [a, b], _ =>
    simp only [cell_5, cell_48, List.drop_zero, List.drop_succ_cons, List.take_succ_cons, List.take_zero] at h0 h1
    obtain ⟨a0, e0, _, w0⟩ := DataW.trod_int Try.underlying5 h0
    obtain ⟨a1, e1, _, w1⟩ := DataW.trod_int Try.underlying48 h1
    simp only [List.cons.injEq, and_true] at e0 e1
    subst e0 e1
    exact ⟨⟨a0, a1⟩, (), ⟨inK_of_wf w0, inK_of_wf w1⟩, rfl, fun f hf => by cases hf⟩
set_option maxRecDepth 100000 in
theorem open_legs {b0 : Nat} {v : Value} {d : DataW H} {p : List MemPlace} (hv : Value.okWide Try.prog w .any b0 26 v) (h : DataW.Trod enc Try.prog w base spare held 26 v d p) : ∃ A n c ls, v = .slice A n c ∧ (Sl legR (.slice A n c) ls).holds w (oldB w) :=
  sl_of_trod Try.underlying26 cell_leg (by decide) trod_leg h (not_agg Try.underlying26 hv)
end
theorem refGo_in {ls : List Leg} : ∀ (d k : Nat) (out : List Leg), k + d ≤ 256 → (∀ x, x ∈ out → inK .u8 x.acct) → ∀ x, x ∈ refGo ls d k out → inK .u8 x.acct
  | 0, _, _, _, h, x, hx => h x hx
  | d + 1, k, out, hk, h, x, hx => by
    unfold refGo at hx
    split at hx
    · cases hx
    · rename_i s b _
      refine refGo_in d (k + 1) _ (by omega) (fun y hy => ?_) x hx
      split at hy
      · rcases List.mem_append.1 hy with hy | hy
        · exact h y hy
        · rw [List.mem_singleton] at hy
          subst hy
          simp only [inK, kLo, kHi]
          omega
      · exact h y hy
theorem made_in {ls out : List Leg} (hr : ∀ x, x ∈ ls → inK .u8 x.acct) (h : made ls out) : ∀ x, x ∈ out → inK .u8 x.acct := by
  rw [made_ref hr h]
  exact refGo_in 256 0 [] (Nat.le_refl _) (fun x hx => by cases hx)
set_option maxRecDepth 100000 in
theorem makes_lifted (os : Os) (started : os.Started) (H : Type) (enc : TypeId × Value → H) :
    ReturnsInHanded {} Try.checked os 3 .any (Rows.chartMakesSpec.pre6 enc Try.prog Try.f3 Rows.chartMakesRow.domain false) (Rows.chartMakesSpec.post enc Try.prog Try.f3 false true false false) := by
  refine returnsInHanded_of_change (C := Try.checked) own started (by kernel_rfl) Try.func3
    (ChangeSpec.witness6 (enc := enc) (C := Try.checked) false ⟨#[], #[.agg #[.int .u32 0, .int .i32 0, .int .u8 0, .int .u32 0], .slice none 0 0], []⟩ 8 (by kernel_rfl) (by kernel_rfl) (by kernel_rfl) (by kernel_rfl)) ?_
  intro W base args ds gs before hval0 hW hcnd _
  have hval : ∀ (j : Nat) t v, Try.f3.params[j]? = some t → args[j]? = some v → Value.okWide Try.prog W .any base t v := hval0
  have hW' := hW
  obtain ⟨p, q, hA0, hV, rfl, hfz, hnd⟩ := hW
  have hA : DataW.TrodAll enc Try.prog W 0 (fun _ => true) true Try.f3.params.toList args.toList ds p := hA0
  rw [Try.params3] at hA hval
  obtain ⟨v0, v1, d0, d1, p0, p1, rfl, rfl, rfl, h0, h1⟩ := trodAll_two hA
  obtain ⟨k, rfl, _, _, wa⟩ := open_key (hval 0 25 v0 rfl rfl) h0
  obtain ⟨A, n, c, ls, rfl, hs⟩ := open_legs (hval 1 26 v1 rfl rfl) h1
  have hH : Hp ⟨W, fun _ => False, oldB W⟩ [] [Sl legR (.slice A n c) ls] W := hp_old W _ fun f hf => by rcases List.mem_cons.1 hf with rfl | hf; exact hs; cases hf
  have hr : ∀ x, x ∈ ls → inK .u8 x.acct := fun x hx => (legs_ok (A := A) (n := n) (c := c) hH x hx).1
  have hr12 : ∀ x, x ∈ ls.take 12 → inK .u8 x.acct := fun x hx => hr x (List.mem_of_mem_take hx)
  refine (makesWalk k (inK_of_wf wa.2.2.1) A n c ls (fun out h => makesLaw k (inK_of_wf wa.2.2.1) _ (by simp; omega) hr12 (fun out h => made_in hr12 h) out h) W _ _ (fun _ h => h) hH).2.mono fun e W' ⟨v, he, _, hv, _, hh⟩ => ?_
  subst he
  subst hv
  exact ⟨_, rfl, post_true kids full rfl (by decide) Try.underlying4 rfl hW' (fun e => rfl) hh⟩
theorem makes_holds : Rows.ChartMakesSaid :=
  OpenClaim.holds_of_wide 3 Try.f3 rfl rfl rfl rfl rfl rfl rfl ⟨rfl, rfl, rfl, rfl, rfl⟩ rfl rfl rfl rfl rfl (by kernel_rfl) Try.func3 (by kernel_rfl)
    (of_decide_eq_true (by kernel_rfl)) (by unfold Func.isWrapper; first | (rw [if_pos (by decide +kernel)]; kernel_rfl) | (rw [if_neg (by decide +kernel)]; exact ⟨rfl, rfl⟩))
    (fun os started H enc _ => makes_lifted os started H enc)
#print axioms makes_holds
end Go.Proofs.Ytenpgmnknmnofaa
