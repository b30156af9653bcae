/- What an order's kind does not name has to be nothing, and the words tell the kind, for every order, loan, number and terms: the row of OrderKinds and its tied card; no condition but the card's own. -/
import Derived.Test.YtgbmambkgcjhfaaGreatDoorLayO
import Derived.Test.YtgbmambkgcjhfaaGreatDoorD44
set_option linter.unusedVariables false
namespace Go.Proofs.YtgbmambkgcjhfaaGreatDoor
open Go.ChangeShapes Go.WideShapes Go.ChangeAt Go.RowKit Go.Joins Go.Wk
set_option maxRecDepth 100000 in
theorem orderKinds_lifted (os : Os) (started : os.Started) (H : Type) (enc : TypeId × Value → H) :
    ReturnsInHanded {} Tryz.checked os 4 .any (fun w args => (Rows.orderKindsSpec.pre enc Tryz.prog Tryz.f4 [] false w args ∧ laidMetH Tryz.prog laid7 w) ∧ sizedMet enc Tryz.prog Tryz.f4 (OpenSpec.ofChange Rows.orderKindsSpec) false w args)
      (Rows.orderKindsSpec.post enc Tryz.prog Tryz.f4 false true false false) := by
  refine handed_shaped (C := Tryz.checked) (X := fun w _ => laidMetH Tryz.prog laid7 w) (fun _ _ _ hh h => h.of_heap hh) ownK started (by kernel_rfl) Tryz.func4
    (ChangeSpec.witness_shaped (enc := enc) (C := Tryz.checked) (os := os) (X := fun w _ => laidMetH Tryz.prog laid7 w) false (world7 os) #[.agg #[.int .u8 0, .int .u32 0, .int .u8 0, .int .i64 0, .int .u32 0, .int .u8 0, .int .i64 0, .int .i32 0, .int .i64 0, .int .i64 0, .int .u32 0, .int .i32 0, .int .u8 0, .int .i64 0], .int .u32 0, .int .u32 0, .agg #[.int .u8 0, .int .i64 0, .int .u32 0, .int .u8 0, .int .i64 0, .int .i32 0, .int .i64 0, .int .i64 0]] 8 (world7_os os) (shaped7 os _) (by kernel_rfl) (by kernel_rfl) (by kernel_rfl) (met7 os _)) ?_
  intro W base args ds gs before hval0 hW hL hS
  have hval : ∀ (j : Nat) t v, Tryz.f4.params[j]? = some t → args[j]? = some v → Value.okWide Tryz.prog W .any base t v := hval0
  have hW' := hW
  obtain ⟨p, q, hA0, hV, rfl, hfz, hnd⟩ := hW
  have hA : DataW.TrodAll enc Tryz.prog W 0 (fun _ => true) true Tryz.f4.params.toList args.toList ds p := hA0
  rw [Tryz.params4] at hA hval
  obtain ⟨v0, v1, v2, v3, d0, d1, d2, d3, p0, p1, p2, p3, rfl, rfl, rfl, h0, h1, h2, h3⟩ := trodAll_four hA
  obtain ⟨o, rfl, hin⟩ := open_od (hval 0 32 v0 rfl rfl) h0
  obtain ⟨loan, rfl, _, _, _⟩ := Go.ChangeShapes.open_int Tryz.underlying22 (hval 1 22 v1 rfl rfl) h1
  obtain ⟨seq, rfl, _, _, _⟩ := Go.ChangeShapes.open_int Tryz.underlying22 (hval 2 22 v2 rfl rfl) h2
  obtain ⟨t, rfl, _⟩ := open_tm (hval 3 28 v3 rfl rfl) h3
  have hH : Hp ⟨W, fun _ => False, oldB W⟩ [] ([] ++ libs7) W := hpLaid7 hL hS _ fun f hf => by
    cases hf
  refine (kindsOd o loan seq t hin W _ _ (fun _ h => h) hH).2.mono fun e W' ⟨v, he, _, hv, _, hh⟩ => ?_
  subst he
  subst hv
  exact ⟨_, rfl, post_true kids full rfl (by decide) Tryz.underlying4 rfl hW' (fun e => rfl) hh⟩
theorem orderKinds_row : Rows.OrderKindsSaid :=
  OpenClaim.holds_of_wide 4 Tryz.f4 rfl rfl rfl rfl rfl rfl rfl ⟨rfl, rfl, rfl, rfl, rfl⟩ rfl rfl rfl rfl rfl (by kernel_rfl) Tryz.func4 (by kernel_rfl)
    (of_decide_eq_true (by kernel_rfl)) (by unfold Func.isWrapper; first | (rw [if_pos (by decide +kernel)]; kernel_rfl) | (rw [if_neg (by decide +kernel)]; exact ⟨rfl, rfl⟩) | (rw [if_neg (of_decide_eq_false (by kernel_rfl))]; exact ⟨rfl, rfl⟩))
    (fun os started H enc _ => orderKinds_lifted os started H enc)
theorem orderKinds_card : Rows.OrderKindsCardSaid :=
  Claim7.holds_tied_plain_at .later [] [.data, .data, .data, .data, .sentinel, .sentinel, .pinned] true (true, "a441f3b125eca711d008e3598371dad0ce55b297abc0257e18899c7f3a0455fd") true
    orderKinds_row (fun _ h => by cases h) (by kernel_rfl) (fun _ h => by cases h) orderKinds_row_tie rfl ⟨rfl, rfl⟩ (by kernel_rfl) rfl
    (fun f fn hf hfn => by
      obtain rfl : f = 4 := Option.some.inj ((show Tryz.prog.funcNamed "arrears/arrearslaw20.OrderKinds" = some 4 by kernel_rfl).symm.trans hf) |>.symm
      obtain rfl : fn = Tryz.f4 := (Option.some.inj (Tryz.func4.symm.trans hfn)).symm
      exact ⟨by kernel_rfl, fun j t ht => by
        rw [Tryz.params4] at ht
        rcases j with _ | _ | _ | _ | j
        · obtain rfl : t = 32 := by simpa using ht.symm
          exact (show Tryz.prog.wantsStandIn 32 = false by kernel_rfl)
        · obtain rfl : t = 22 := by simpa using ht.symm
          exact (show Tryz.prog.wantsStandIn 22 = false by kernel_rfl)
        · obtain rfl : t = 22 := by simpa using ht.symm
          exact (show Tryz.prog.wantsStandIn 22 = false by kernel_rfl)
        · obtain rfl : t = 28 := by simpa using ht.symm
          exact (show Tryz.prog.wantsStandIn 28 = false by kernel_rfl)
        · simp at ht⟩)
    (by kernel_rfl)
#print axioms orderKinds_card
end Go.Proofs.YtgbmambkgcjhfaaGreatDoor
