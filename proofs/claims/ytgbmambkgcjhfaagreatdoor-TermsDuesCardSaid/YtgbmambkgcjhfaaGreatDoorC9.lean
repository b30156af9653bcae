/- Month by month the day on which it is due, and all that is due up to it, are the document's, or it is an error, for every terms and holidays: the row of TermsDues and its tied card; no condition but the card's own. -/
import Derived.Test.YtgbmambkgcjhfaaGreatDoorLayH
import Derived.Test.YtgbmambkgcjhfaaGreatDoorD54
set_option linter.unusedVariables false
namespace Go.Proofs.YtgbmambkgcjhfaaGreatDoor
open Go.ChangeShapes Go.WideShapes Go.ChangeAt Go.RowKit Go.Joins Go.Wk
set_option maxRecDepth 100000 in
theorem termsDues_lifted (os : Os) (started : os.Started) (H : Type) (enc : TypeId × Value → H) :
    ReturnsInHanded {} Tryz.checked os 9 .any (fun w args => (Rows.termsDuesSpec.pre enc Tryz.prog Tryz.f9 [] false w args ∧ laidMetH Tryz.prog laid8 w) ∧ sizedMet enc Tryz.prog Tryz.f9 (OpenSpec.ofChange Rows.termsDuesSpec) false w args)
      (Rows.termsDuesSpec.post enc Tryz.prog Tryz.f9 false true false false) := by
  refine handed_shaped (C := Tryz.checked) (X := fun w _ => laidMetH Tryz.prog laid8 w) (fun _ _ _ hh h => h.of_heap hh) ownK started (by kernel_rfl) Tryz.func9
    (ChangeSpec.witness_shaped (enc := enc) (C := Tryz.checked) (os := os) (X := fun w _ => laidMetH Tryz.prog laid8 w) false (world8 os) #[.agg #[.int .u8 0, .int .i64 0, .int .u32 0, .int .u8 0, .int .i64 0, .int .i32 0, .int .i64 0, .int .i64 0], .slice none 0 0] 8 (world8_os os) (shaped8 os _) (by kernel_rfl) (by kernel_rfl) (by kernel_rfl) (met8 os _)) ?_
  intro W base args ds gs before hval0 hW hL hS
  have hval : ∀ (j : Nat) t v, Tryz.f9.params[j]? = some t → args[j]? = some v → Value.okWide Tryz.prog W .any base t v := hval0
  have hW' := hW
  obtain ⟨p, q, hA0, hV, rfl, hfz, hnd⟩ := hW
  have hA : DataW.TrodAll enc Tryz.prog W 0 (fun _ => true) true Tryz.f9.params.toList args.toList ds p := hA0
  rw [Tryz.params9] at hA hval
  obtain ⟨v0, v1, d0, d1, p0, p1, rfl, rfl, rfl, h0, h1⟩ := trodAll_two hA
  obtain ⟨t, rfl, ht⟩ := open_tm (hval 0 28 v0 rfl rfl) h0
  obtain ⟨A, n, c, xs, rfl, hs⟩ := open_u8s (hval 1 43 v1 rfl rfl) h1
  have hH : Hp ⟨W, fun _ => False, oldB W⟩ [] ([Sl u8R (.slice A n c) xs] ++ libs8) W := hpLaid8 hL hS _ fun f hf => by
    rcases List.mem_cons.1 hf with rfl | hf
    · exact hs
    · cases hf
  refine (duesWalk t ht A n c xs W _ _ (fun _ h => h) hH).2.mono fun e W' ⟨v, he, _, hv, _, hh⟩ => ?_
  subst he
  subst hv
  exact ⟨_, rfl, post_true kids full rfl (by decide) Tryz.underlying4 rfl hW' (fun e => rfl) hh⟩
theorem termsDues_row : Rows.TermsDuesSaid :=
  OpenClaim.holds_of_wide 9 Tryz.f9 rfl rfl rfl rfl rfl rfl rfl ⟨rfl, rfl, rfl, rfl, rfl⟩ rfl rfl rfl rfl rfl (by kernel_rfl) Tryz.func9 (by kernel_rfl)
    (of_decide_eq_true (by kernel_rfl)) (by unfold Func.isWrapper; first | (rw [if_pos (by decide +kernel)]; kernel_rfl) | (rw [if_neg (by decide +kernel)]; exact ⟨rfl, rfl⟩) | (rw [if_neg (of_decide_eq_false (by kernel_rfl))]; exact ⟨rfl, rfl⟩))
    (fun os started H enc _ => termsDues_lifted os started H enc)
theorem termsDues_card : Rows.TermsDuesCardSaid :=
  Claim7.holds_tied_plain_at .later [] [.data, .data, .data, .data, .handle, .sentinel, .sentinel, .pinned] true (true, "a441f3b125eca711d008e3598371dad0ce55b297abc0257e18899c7f3a0455fd") true
    termsDues_row (fun _ h => by cases h) (by kernel_rfl) (fun _ h => by cases h) termsDues_row_tie rfl ⟨rfl, rfl⟩ (by kernel_rfl) rfl
    (fun f fn hf hfn => by
      obtain rfl : f = 9 := Option.some.inj ((show Tryz.prog.funcNamed "arrears/arrearslaw16.TermsDues" = some 9 by kernel_rfl).symm.trans hf) |>.symm
      obtain rfl : fn = Tryz.f9 := (Option.some.inj (Tryz.func9.symm.trans hfn)).symm
      exact ⟨by kernel_rfl, fun j t ht => by
        rw [Tryz.params9] at ht
        rcases j with _ | _ | j
        · obtain rfl : t = 28 := by simpa using ht.symm
          exact (show Tryz.prog.wantsStandIn 28 = false by kernel_rfl)
        · obtain rfl : t = 43 := by simpa using ht.symm
          exact (show Tryz.prog.wantsStandIn 43 = false by kernel_rfl)
        · simp at ht⟩)
    (by kernel_rfl)
#print axioms termsDues_card
end Go.Proofs.YtgbmambkgcjhfaaGreatDoor
