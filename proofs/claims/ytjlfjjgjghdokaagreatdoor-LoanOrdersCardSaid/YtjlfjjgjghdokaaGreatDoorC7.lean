/- Events that come in another order, all of them taken, leave the loan the same, and the same live entries, for every terms, days and acts: the row of LoanOrders and its tied card; no condition but the card's own. -/
import Derived.Test.YtjlfjjgjghdokaaGreatDoorLy26
set_option linter.unusedVariables false
namespace Go.Proofs.YtjlfjjgjghdokaaGreatDoor
open Go.ChangeShapes Go.WideShapes Go.ChangeAt Go.RowKit Go.Joins Go.Wk
set_option maxRecDepth 100000 in
theorem loanOrders_lifted (os : Os) (started : os.Started) (H : Type) (enc : TypeId × Value → H) :
    ReturnsInHanded {} Tryz.checked os 6 .any (fun w args => (Rows.loanOrdersSpec.pre enc Tryz.prog Tryz.f6 [] false w args ∧ laidMetH Tryz.prog laid7 w) ∧ sizedMet enc Tryz.prog Tryz.f6 (OpenSpec.ofChange Rows.loanOrdersSpec) false w args)
      (Rows.loanOrdersSpec.post enc Tryz.prog Tryz.f6 false true false false) := by
  refine handed_shaped (C := Tryz.checked) (X := fun w _ => laidMetH Tryz.prog laid7 w) (fun _ _ _ hh h => h.of_heap hh) ownK started (by kernel_rfl) Tryz.func6
    (ChangeSpec.witness_shaped (enc := enc) (C := Tryz.checked) (os := os) (X := fun w _ => laidMetH Tryz.prog laid7 w) false (world7 os) #[.agg #[.int .u8 0, .int .i64 0, .int .u32 0, .int .u8 0, .int .i64 0, .int .i32 0, .int .i64 0, .int .i64 0], .int .u8 0, .slice none 0 0, .slice none 0 0] 8 (world7_os os) (shaped7 os _) (by kernel_rfl) (by kernel_rfl) (by kernel_rfl) (met7 os _)) ?_
  intro W base args ds gs before hval0 hW hL hS
  have hval : ∀ (j : Nat) t v, Tryz.f6.params[j]? = some t → args[j]? = some v → Value.okWide Tryz.prog W .any base t v := hval0
  have hW' := hW
  obtain ⟨p, q, hA0, hV, rfl, hfz, hnd⟩ := hW
  have hA : DataW.TrodAll enc Tryz.prog W 0 (fun _ => true) true Tryz.f6.params.toList args.toList ds p := hA0
  rw [Tryz.params6] at hA hval
  obtain ⟨v0, v1, v2, v3, d0, d1, d2, d3, p0, p1, p2, p3, rfl, rfl, rfl, h0, h1, h2, h3⟩ := trodAll_four hA
  obtain ⟨t, rfl, ht⟩ := open_tm (hval 0 28 v0 rfl rfl) h0
  obtain ⟨y, rfl, _, _, wy⟩ := open_int Tryz.underlying5 (hval 1 5 v1 rfl rfl) h1
  obtain ⟨A1, n1, c1, ds, rfl, hds⟩ := open_acs (hval 2 78 v2 rfl rfl) h2
  obtain ⟨A2, n2, c2, sw, rfl, hsw⟩ := open_acs (hval 3 78 v3 rfl rfl) h3
  have hH : Hp ⟨W, fun _ => False, oldB W⟩ [] ([Sl acR (.slice A1 n1 c1) ds, Sl acR (.slice A2 n2 c2) sw] ++ libs7) W := hpLaid7 hL hS _ fun f hf => by
    rcases List.mem_cons.1 hf with rfl | hf
    · exact hds
    · rcases List.mem_cons.1 hf with rfl | hf
      · exact hsw
      · cases hf
  refine (ordersWalk8 t ht y (inK_of_wf wy) A1 n1 c1 ds A2 n2 c2 sw W _ _ (fun _ h => h) hH).2.mono fun e W' ⟨v, he, _, hv, _, hh⟩ => ?_
  subst he
  subst hv
  exact ⟨_, rfl, post_true kids full rfl (by decide) Tryz.underlying4 rfl hW' (fun e => rfl) hh⟩
theorem and_t {a b : Bool} (ha : a = true) (hb : b = true) : (a && b) = true := by rw [ha, hb]; rfl
set_option maxHeartbeats 4000000 in
theorem loanOrders_row : Rows.LoanOrdersSaid :=
  OpenClaim.holds_of_wide 6 Tryz.f6 rfl rfl rfl rfl rfl rfl rfl ⟨rfl, rfl, rfl, rfl, rfl⟩ rfl rfl rfl rfl rfl (by as_aux_lemma => kernel_rfl) Tryz.func6 (by
      delta joinedFacts
      repeat' with_reducible refine and_t ?_ ?_
      all_goals as_aux_lemma => kernel_rfl)
    (of_decide_eq_true (by as_aux_lemma => kernel_rfl)) (by unfold Func.isWrapper; first | (rw [if_pos (by decide +kernel)]; as_aux_lemma => kernel_rfl) | (rw [if_neg (by decide +kernel)]; exact ⟨rfl, rfl⟩) | (rw [if_neg (of_decide_eq_false (by as_aux_lemma => kernel_rfl))]; exact ⟨rfl, rfl⟩))
    (fun os started H enc _ => loanOrders_lifted os started H enc)
theorem loanOrders_card : Rows.LoanOrdersCardSaid :=
  Claim7.holds_tied_plain_at .later [] [.data, .data, .data, .data, .sentinel, .sentinel, .pinned] true (true, "02d0dae99ee24cab7385dc92a88eaae90fbf691075a2d4a18f5175ad4b3074a6") true
    loanOrders_row (fun _ h => by cases h) (by as_aux_lemma => kernel_rfl) (fun _ h => by cases h) loanOrders_row_tie rfl ⟨rfl, rfl⟩ (by as_aux_lemma => kernel_rfl) rfl
    (fun f fn hf hfn => by
      obtain rfl : f = 6 := Option.some.inj ((show Tryz.prog.funcNamed "arrears/arrearslaw18.LoanOrders" = some 6 by as_aux_lemma => kernel_rfl).symm.trans hf) |>.symm
      obtain rfl : fn = Tryz.f6 := (Option.some.inj (Tryz.func6.symm.trans hfn)).symm
      exact ⟨by as_aux_lemma => kernel_rfl, fun j t ht => by
        rw [Tryz.params6] at ht
        rcases j with _ | _ | _ | _ | j
        · obtain rfl : t = 28 := by simpa using ht.symm
          exact (show Tryz.prog.wantsStandIn 28 = false by kernel_rfl)
        · obtain rfl : t = 5 := by simpa using ht.symm
          exact (show Tryz.prog.wantsStandIn 5 = false by kernel_rfl)
        · obtain rfl : t = 78 := by simpa using ht.symm
          exact (show Tryz.prog.wantsStandIn 78 = false by kernel_rfl)
        · obtain rfl : t = 78 := by simpa using ht.symm
          exact (show Tryz.prog.wantsStandIn 78 = false by kernel_rfl)
        · simp at ht⟩)
    (by as_aux_lemma => kernel_rfl)
#print axioms loanOrders_card
end Go.Proofs.YtjlfjjgjghdokaaGreatDoor
