/- Terms that may be have the document's bytes, of which they are read again, and any bytes are some terms or none, for every terms and bytes: the row of TermsForms and its tied card; no condition but the card's own. -/
import Derived.Test.YtgbmambkgcjhfaaGreatDoorLayH
import Derived.Test.YtgbmambkgcjhfaaGreatDoorD35
set_option linter.unusedVariables false
namespace Go.Proofs.YtgbmambkgcjhfaaGreatDoor
open Go.ChangeShapes Go.WideShapes Go.ChangeAt Go.RowKit Go.Joins Go.Wk
set_option maxRecDepth 100000 in
theorem termsForms_lifted (os : Os) (started : os.Started) (H : Type) (enc : TypeId × Value → H) :
    ReturnsInHanded {} Tryz.checked os 11 .any (fun w args => (Rows.termsFormsSpec.pre enc Tryz.prog Tryz.f11 [] false w args ∧ laidMetH Tryz.prog laid8 w) ∧ sizedMet enc Tryz.prog Tryz.f11 (OpenSpec.ofChange Rows.termsFormsSpec) false w args)
      (Rows.termsFormsSpec.post enc Tryz.prog Tryz.f11 false true false false) := by
  refine handed_shaped (C := Tryz.checked) (X := fun w _ => laidMetH Tryz.prog laid8 w) (fun _ _ _ hh h => h.of_heap hh) ownK started (by kernel_rfl) Tryz.func11
    (ChangeSpec.witness_shaped (enc := enc) (C := Tryz.checked) (os := os) (X := fun w _ => laidMetH Tryz.prog laid8 w) false (world8 os) #[.agg #[.int .u8 0, .int .i64 0, .int .u32 0, .int .u8 0, .int .i64 0, .int .i32 0, .int .i64 0, .int .i64 0], .slice none 0 0, .int .u16 0, .int .u8 0] 8 (world8_os os) (shaped8 os _) (by kernel_rfl) (by kernel_rfl) (by kernel_rfl) (met8 os _)) ?_
  intro W base args ds gs before hval0 hW hL hS
  have hval : ∀ (j : Nat) t v, Tryz.f11.params[j]? = some t → args[j]? = some v → Value.okWide Tryz.prog W .any base t v := hval0
  have hW' := hW
  obtain ⟨p, q, hA0, hV, rfl, hfz, hnd⟩ := hW
  have hA : DataW.TrodAll enc Tryz.prog W 0 (fun _ => true) true Tryz.f11.params.toList args.toList ds p := hA0
  rw [Tryz.params11] at hA hval
  obtain ⟨v0, v1, v2, v3, d0, d1, d2, d3, p0, p1, p2, p3, rfl, rfl, rfl, h0, h1, h2, h3⟩ := trodAll_four hA
  obtain ⟨t, rfl, ht⟩ := open_tm (hval 0 28 v0 rfl rfl) h0
  obtain ⟨B, m, d, raw, rfl, hs⟩ := open_bytes (hval 1 43 v1 rfl rfl) h1
  obtain ⟨a, rfl, _, _, wa⟩ := open_int Tryz.underlying72 (hval 2 72 v2 rfl rfl) h2
  obtain ⟨z, rfl, _, _, wz⟩ := open_int Tryz.underlying5 (hval 3 5 v3 rfl rfl) h3
  have hH : Hp ⟨W, fun _ => False, oldB W⟩ [] ([Sl byteR (.slice B m d) raw] ++ libs8) W := hpLaid8 hL hS _ fun f hf => by
    rcases List.mem_cons.1 hf with rfl | hf
    · exact hs
    · cases hf
  refine (formsWalk t ht B m d raw a z (inK_of_wf wa) (inK_of_wf wz) W _ _ (fun _ h => h) hH).2.mono fun e W' ⟨v, he, _, hv, _, hh⟩ => ?_
  subst he
  subst hv
  exact ⟨_, rfl, post_true kids full rfl (by decide) Tryz.underlying4 rfl hW' (fun e => rfl) hh⟩
theorem termsForms_row : Rows.TermsFormsSaid :=
  OpenClaim.holds_of_wide 11 Tryz.f11 rfl rfl rfl rfl rfl rfl rfl ⟨rfl, rfl, rfl, rfl, rfl⟩ rfl rfl rfl rfl rfl (by kernel_rfl) Tryz.func11 (by kernel_rfl)
    (of_decide_eq_true (by kernel_rfl)) (by unfold Func.isWrapper; first | (rw [if_pos (by decide +kernel)]; kernel_rfl) | (rw [if_neg (by decide +kernel)]; exact ⟨rfl, rfl⟩) | (rw [if_neg (of_decide_eq_false (by kernel_rfl))]; exact ⟨rfl, rfl⟩))
    (fun os started H enc _ => termsForms_lifted os started H enc)
theorem termsForms_card : Rows.TermsFormsCardSaid :=
  Claim7.holds_tied_plain_at .later [] [.data, .data, .data, .data, .handle, .sentinel, .sentinel, .pinned] true (true, "a441f3b125eca711d008e3598371dad0ce55b297abc0257e18899c7f3a0455fd") true
    termsForms_row (fun _ h => by cases h) (by kernel_rfl) (fun _ h => by cases h) termsForms_row_tie rfl ⟨rfl, rfl⟩ (by kernel_rfl) rfl
    (fun f fn hf hfn => by
      obtain rfl : f = 11 := Option.some.inj ((show Tryz.prog.funcNamed "arrears/arrearslaw16.TermsForms" = some 11 by kernel_rfl).symm.trans hf) |>.symm
      obtain rfl : fn = Tryz.f11 := (Option.some.inj (Tryz.func11.symm.trans hfn)).symm
      exact ⟨by kernel_rfl, fun j t ht => by
        rw [Tryz.params11] at ht
        rcases j with _ | _ | _ | _ | j
        · obtain rfl : t = 28 := by simpa using ht.symm
          exact (show Tryz.prog.wantsStandIn 28 = false by kernel_rfl)
        · obtain rfl : t = 43 := by simpa using ht.symm
          exact (show Tryz.prog.wantsStandIn 43 = false by kernel_rfl)
        · obtain rfl : t = 72 := by simpa using ht.symm
          exact (show Tryz.prog.wantsStandIn 72 = false by kernel_rfl)
        · obtain rfl : t = 5 := by simpa using ht.symm
          exact (show Tryz.prog.wantsStandIn 5 = false by kernel_rfl)
        · simp at ht⟩)
    (by kernel_rfl)
#print axioms termsForms_card
end Go.Proofs.YtgbmambkgcjhfaaGreatDoor
