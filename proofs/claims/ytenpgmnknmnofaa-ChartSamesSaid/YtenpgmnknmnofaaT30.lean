/- Entries are alike just if their keys and legs are, for every input: the statement. -/
import Derived.Test.YtenpgmnknmnofaaT19
import Derived.Test.YtenpgmnknmnofaaT29
namespace Go.Proofs.Ytenpgmnknmnofaa
open Go.ChangeShapes Go.WideShapes Go.ChangeAt Go.RowKit Go.Joins Go.Wk
set_option maxRecDepth 100000 in
theorem sames_lifted (os : Os) (started : os.Started) (H : Type) (enc : TypeId × Value → H) :
    ReturnsInHanded {} Try.checked os 6 .any (Rows.chartSamesSpec.pre6 enc Try.prog Try.f6 Rows.chartSamesRow.domain false) (Rows.chartSamesSpec.post enc Try.prog Try.f6 false true false false) := by
  refine returnsInHanded_of_change (C := Try.checked) own started (by kernel_rfl) Try.func6
    (ChangeSpec.witness6 (enc := enc) (C := Try.checked) false ⟨#[], #[.agg #[.int .u32 0, .int .i32 0, .int .u8 0, .int .u32 0], .agg #[.int .u32 0, .int .i32 0, .int .u8 0, .int .u32 0], .slice none 0 0, .slice none 0 0], []⟩ 8 (by kernel_rfl) (by kernel_rfl) (by kernel_rfl) (by kernel_rfl)) ?_
  intro W base args ds gs before hval0 hW hcnd _
  have hval : ∀ (j : Nat) t v, Try.f6.params[j]? = some t → args[j]? = some v → Value.okWide Try.prog W .any base t v := hval0
  have hW' := hW
  obtain ⟨p, q, hA0, hV, rfl, hfz, hnd⟩ := hW
  have hA : DataW.TrodAll enc Try.prog W 0 (fun _ => true) true Try.f6.params.toList args.toList ds p := hA0
  rw [Try.params6] at hA hval
  obtain ⟨v0, v1, v2, v3, d0, d1, d2, d3, p0, p1, p2, p3, rfl, rfl, rfl, h0, h1, h2, h3⟩ := trodAll_four hA
  obtain ⟨k, rfl, _, _, wk⟩ := open_key (hval 0 25 v0 rfl rfl) h0
  obtain ⟨l, rfl, _, _, wl⟩ := open_key (hval 1 25 v1 rfl rfl) h1
  obtain ⟨A, n, c, ls, rfl, hs⟩ := open_legs (hval 2 26 v2 rfl rfl) h2
  obtain ⟨B, m, d, ms, rfl, ht⟩ := open_legs (hval 3 26 v3 rfl rfl) h3
  have hH : Hp ⟨W, fun _ => False, oldB W⟩ [] [Sl legR (.slice A n c) ls, Sl legR (.slice B m d) ms] W := hp_old W _ fun f hf => by
    rcases List.mem_cons.1 hf with rfl | hf
    · exact hs
    · rcases List.mem_cons.1 hf with rfl | hf
      · exact ht
      · cases hf
  have hk : keyIn k := ⟨inK_of_wf wk.1, inK_of_wf wk.2.1, inK_of_wf wk.2.2.1, inK_of_wf wk.2.2.2⟩
  have hl : keyIn l := ⟨inK_of_wf wl.1, inK_of_wf wl.2.1, inK_of_wf wl.2.2.1, inK_of_wf wl.2.2.2⟩
  have short : ∀ (x out : List Leg), made (x.take 12) out → out.length ≤ 1000 := fun x out h => by
    have hx : (x.take 12).length ≤ 12 := by simp; omega
    unfold made at h
    cases hs : sumGo (x.take 12) [] with
    | none => rw [hs] at h; rw [h]; simp
    | some m => rw [hs] at h; have := sumGo_len hs; have := h.1.length_eq; simp at *; omega
  refine (samesWalk k l hk hl A B n c m d ls ms (short ls) (short ms) W _ _ hH).2.mono fun e W' ⟨v, he, _, hv, _, hh⟩ => ?_
  subst he
  subst hv
  exact ⟨_, rfl, post_true kids full rfl (by decide) Try.underlying4 rfl hW' (fun e => rfl) hh⟩
theorem sames_holds : Rows.ChartSamesSaid :=
  OpenClaim.holds_of_wide 6 Try.f6 rfl rfl rfl rfl rfl rfl rfl ⟨rfl, rfl, rfl, rfl, rfl⟩ rfl rfl rfl rfl rfl (by kernel_rfl) Try.func6 (by kernel_rfl)
    (of_decide_eq_true (by kernel_rfl)) (by unfold Func.isWrapper; first | (rw [if_pos (by decide +kernel)]; kernel_rfl) | (rw [if_neg (by decide +kernel)]; exact ⟨rfl, rfl⟩))
    (fun os started H enc _ => sames_lifted os started H enc)
#print axioms sames_holds
end Go.Proofs.Ytenpgmnknmnofaa
