/- Each order that may be has the document's words, of which it is read again, and any line is one or none, for every order and line: the row of OrderReads and its tied card; no condition but the card's own. -/
import Derived.Test.YtgbmambkgcjhfaaGreatDoorLayO
import Derived.Test.YtgbmambkgcjhfaaGreatDoorD45
import Derived.ChangeMaps5
set_option linter.unusedVariables false
namespace Go.Proofs.YtgbmambkgcjhfaaGreatDoor
open Go.ChangeShapes Go.WideShapes Go.ChangeAt Go.RowKit Go.Joins Go.Wk
set_option maxRecDepth 100000 in
theorem orderReads_lifted (os : Os) (started : os.Started) (H : Type) (enc : TypeId × Value → H) :
    ReturnsInHanded {} Tryz.checked os 5 .any (fun w args => (Rows.orderReadsSpec.pre enc Tryz.prog Tryz.f5 [] false w args ∧ laidMetH Tryz.prog laid8 w) ∧ sizedMet enc Tryz.prog Tryz.f5 (OpenSpec.ofChange Rows.orderReadsSpec) false w args)
      (Rows.orderReadsSpec.post enc Tryz.prog Tryz.f5 false true false false) := by
  refine handed_shaped (C := Tryz.checked) (X := fun w _ => laidMetH Tryz.prog laid8 w) (fun _ _ _ hh h => h.of_heap hh) ownK started (by kernel_rfl) Tryz.func5
    (ChangeSpec.witness_shaped (enc := enc) (C := Tryz.checked) (os := os) (X := fun w _ => laidMetH Tryz.prog laid8 w) false (world8 os) #[.agg #[.int .u8 0, .int .u32 0, .int .u8 0, .int .i64 0, .int .u32 0, .int .u8 0, .int .i64 0, .int .i32 0, .int .i64 0, .int .i64 0, .int .u32 0, .int .i32 0, .int .u8 0, .int .i64 0], .string ⟨#[]⟩] 8 (world8_os os) (shaped8 os _) (by kernel_rfl) (by kernel_rfl) (by kernel_rfl) (met8 os _)) ?_
  intro W base args ds gs before hval0 hW hL hS
  have hval : ∀ (j : Nat) t v, Tryz.f5.params[j]? = some t → args[j]? = some v → Value.okWide Tryz.prog W .any base t v := hval0
  have hW' := hW
  obtain ⟨p, q, hA0, hV, rfl, hfz, hnd⟩ := hW
  have hA : DataW.TrodAll enc Tryz.prog W 0 (fun _ => true) true Tryz.f5.params.toList args.toList ds p := hA0
  rw [Tryz.params5] at hA hval
  obtain ⟨v0, v1, d0, d1, p0, p1, rfl, rfl, rfl, h0, h1⟩ := trodAll_two hA
  obtain ⟨o, rfl, hin⟩ := open_od (hval 0 32 v0 rfl rfl) h0
  obtain ⟨s, rfl, _, _, _⟩ := Go.ChangeMaps.open_string Tryz.underlying9 (hval 1 9 v1 rfl rfl) h1
  have hH : Hp ⟨W, fun _ => False, oldB W⟩ [] ([] ++ libs8) W := hpLaid8 hL hS _ fun f hf => by
    cases hf
  refine (readsOd o hin s W _ _ (fun _ h => h) hH).2.mono fun e W' ⟨v, he, _, hv, _, hh⟩ => ?_
  subst he
  subst hv
  exact ⟨_, rfl, post_true kids full rfl (by decide) Tryz.underlying4 rfl hW' (fun e => rfl) hh⟩
theorem orderReads_row : Rows.OrderReadsSaid :=
  OpenClaim.holds_of_wide 5 Tryz.f5 rfl rfl rfl rfl rfl rfl rfl ⟨rfl, rfl, rfl, rfl, rfl⟩ rfl rfl rfl rfl rfl (by kernel_rfl) Tryz.func5 (by kernel_rfl)
    (of_decide_eq_true (by kernel_rfl)) (by unfold Func.isWrapper; first | (rw [if_pos (by decide +kernel)]; kernel_rfl) | (rw [if_neg (by decide +kernel)]; exact ⟨rfl, rfl⟩) | (rw [if_neg (of_decide_eq_false (by kernel_rfl))]; exact ⟨rfl, rfl⟩))
    (fun os started H enc _ => orderReads_lifted os started H enc)
theorem orderReads_card : Rows.OrderReadsCardSaid :=
  Claim7.holds_tied_plain_at .later [] [.data, .data, .data, .data, .handle, .sentinel, .sentinel, .pinned] true (true, "a441f3b125eca711d008e3598371dad0ce55b297abc0257e18899c7f3a0455fd") true
    orderReads_row (fun _ h => by cases h) (by kernel_rfl) (fun _ h => by cases h) orderReads_row_tie rfl ⟨rfl, rfl⟩ (by kernel_rfl) rfl
    (fun f fn hf hfn => by
      obtain rfl : f = 5 := Option.some.inj ((show Tryz.prog.funcNamed "arrears/arrearslaw20.OrderReads" = some 5 by kernel_rfl).symm.trans hf) |>.symm
      obtain rfl : fn = Tryz.f5 := (Option.some.inj (Tryz.func5.symm.trans hfn)).symm
      exact ⟨by kernel_rfl, fun j t ht => by
        rw [Tryz.params5] at ht
        rcases j with _ | _ | j
        · obtain rfl : t = 32 := by simpa using ht.symm
          exact (show Tryz.prog.wantsStandIn 32 = false by kernel_rfl)
        · obtain rfl : t = 9 := by simpa using ht.symm
          exact (show Tryz.prog.wantsStandIn 9 = false by kernel_rfl)
        · simp at ht⟩)
    (by kernel_rfl)
#print axioms orderReads_card
end Go.Proofs.YtgbmambkgcjhfaaGreatDoor
