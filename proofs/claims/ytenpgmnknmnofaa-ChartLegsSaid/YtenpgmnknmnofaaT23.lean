/- Legs in whatever order come to the same, for every input: the statement. -/
import Derived.Test.YtenpgmnknmnofaaT19
import Derived.Test.YtenpgmnknmnofaaT22
namespace Go.Proofs.Ytenpgmnknmnofaa
open Go.ChangeShapes Go.WideShapes Go.ChangeAt Go.RowKit Go.Joins Go.Wk
set_option maxRecDepth 100000 in
theorem legs_lifted (os : Os) (started : os.Started) (H : Type) (enc : TypeId × Value → H) :
    ReturnsInHanded {} Try.checked os 5 .any (Rows.chartLegsSpec.pre6 enc Try.prog Try.f5 Rows.chartLegsRow.domain false) (Rows.chartLegsSpec.post enc Try.prog Try.f5 false true false false) := by
  refine returnsInHanded_of_change (C := Try.checked) own started (by kernel_rfl) Try.func5
    (ChangeSpec.witness6 (enc := enc) (C := Try.checked) false ⟨#[], #[.agg #[.int .u32 0, .int .i32 0, .int .u8 0, .int .u32 0], .slice none 0 0, .int .u8 0], []⟩ 8 (by kernel_rfl) (by kernel_rfl) (by kernel_rfl) (by kernel_rfl)) ?_
  intro W base args ds gs before hval0 hW hcnd _
  have hval : ∀ (j : Nat) t v, Try.f5.params[j]? = some t → args[j]? = some v → Value.okWide Try.prog W .any base t v := hval0
  have hW' := hW
  obtain ⟨p, q, hA0, hV, rfl, hfz, hnd⟩ := hW
  have hA : DataW.TrodAll enc Try.prog W 0 (fun _ => true) true Try.f5.params.toList args.toList ds p := hA0
  rw [Try.params5] at hA hval
  obtain ⟨v0, v1, v2, d0, d1, d2, p0, p1, p2, rfl, rfl, rfl, h0, h1, h2⟩ := trodAll_three hA
  obtain ⟨k, rfl, _, _, wa⟩ := open_key (hval 0 25 v0 rfl rfl) h0
  obtain ⟨A, n, c, ls, rfl, hs⟩ := open_legs (hval 1 26 v1 rfl rfl) h1
  obtain ⟨z, rfl, rfl, rfl, wn⟩ := open_int Try.underlying5 (hval 2 5 v2 rfl rfl) h2
  have hH : Hp ⟨W, fun _ => False, oldB W⟩ [] [Sl legR (.slice A n c) ls] W := hp_old W _ fun f hf => by rcases List.mem_cons.1 hf with rfl | hf; exact hs; cases hf
  have hok := legs_ok (A := A) (n := n) (c := c) hH
  have law : LegsOk ((ls.take 12).map modL) := legsLaw _ (fun x hx => by obtain ⟨y, _, rfl⟩ := List.mem_map.1 hx; exact modL_in) (by simp; omega) (fun x hx => by obtain ⟨y, hy, rfl⟩ := List.mem_map.1 hx; exact (hok y (List.mem_of_mem_take hy)).1)
  refine (legsWalk k A n c ls z (inK_of_wf wn) law W _ _ (fun _ h => h) hH).2.mono fun e W' ⟨v, he, _, hv, _, hh⟩ => ?_
  subst he
  subst hv
  exact ⟨_, rfl, post_true kids full rfl (by decide) Try.underlying4 rfl hW' (fun e => rfl) hh⟩
theorem legs_holds : Rows.ChartLegsSaid :=
  OpenClaim.holds_of_wide 5 Try.f5 rfl rfl rfl rfl rfl rfl rfl ⟨rfl, rfl, rfl, rfl, rfl⟩ rfl rfl rfl rfl rfl (by kernel_rfl) Try.func5 (by kernel_rfl)
    (of_decide_eq_true (by kernel_rfl)) (by unfold Func.isWrapper; first | (rw [if_pos (by decide +kernel)]; kernel_rfl) | (rw [if_neg (by decide +kernel)]; exact ⟨rfl, rfl⟩))
    (fun os started H enc _ => legs_lifted os started H enc)
#print axioms legs_holds
end Go.Proofs.Ytenpgmnknmnofaa
