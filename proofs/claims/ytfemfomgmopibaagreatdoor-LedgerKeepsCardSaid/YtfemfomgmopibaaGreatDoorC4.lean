/- A ledger is only added to: what was told of a line stays, the reversals are counted and the live entries of all loans together are all, for every two scripts: the row of LedgerKeeps and its tied card; no condition but the card's own. -/
import Derived.Test.YtfemfomgmopibaaGreatDoorLk13
namespace Go.Proofs.YtfemfomgmopibaaGreatDoor
open Go.ChangeShapes Go.WideShapes Go.ChangeAt Go.RowKit Go.Joins Go.Wk
set_option maxRecDepth 100000 in
theorem ledgerKeeps_lifted (os : Os) (started : os.Started) (H : Type) (enc : TypeId × Value → H) :
    ReturnsInHanded {} Tryz.checked os 5 .any (fun w args => (Rows.ledgerKeepsSpec.pre enc Tryz.prog Tryz.f5 [] false w args ∧ laidMetH Tryz.prog laidL w) ∧ sizedMet enc Tryz.prog Tryz.f5 (OpenSpec.ofChange Rows.ledgerKeepsSpec) false w args)
      (Rows.ledgerKeepsSpec.post enc Tryz.prog Tryz.f5 false true false false) := by
  refine returnsInHanded_of_change_and (C := Tryz.checked) (X := fun w _ => laidMetH Tryz.prog laidL w) (fun _ _ _ hh h => h.of_heap hh) ownK started (by kernel_rfl) Tryz.func5
    (ChangeSpec.witness_at (enc := enc) (C := Tryz.checked) (os := os) (X := fun w _ => laidMetH Tryz.prog laidL w) false (laidWorld os) #[.slice none 0 0, .slice none 0 0] 8 rfl (by kernel_rfl) (by kernel_rfl) (by kernel_rfl) (by kernel_rfl) (by kernel_rfl) (laidWorld_met os _)) ?_
  intro W base args ds gs before hval0 hW _ _ hL _
  have hval : ∀ (j : Nat) t v, Tryz.f5.params[j]? = some t → args[j]? = some v → Value.okWide Tryz.prog W .any base t v := hval0
  have hW' := hW
  obtain ⟨p, q, hA0, hV, rfl, hfz, hnd⟩ := hW
  have hA : DataW.TrodAll enc Tryz.prog W 0 (fun _ => true) true Tryz.f5.params.toList args.toList ds p := hA0
  rw [Tryz.params5] at hA hval
  obtain ⟨v0, v1, d0, d1, p0, p1, rfl, rfl, rfl, h0, h1⟩ := trodAll_two hA
  obtain ⟨A, n, c, xs, rfl, hs⟩ := open_acts (hval 0 22 v0 rfl rfl) h0
  obtain ⟨A2, n2, c2, ys, rfl, hs2⟩ := open_acts (hval 1 22 v1 rfl rfl) h1
  have hg := glob_of (handle_of_laid hL)
  have hH : Hp ⟨W, fun _ => False, oldB W⟩ [] [Sl actR (.slice A n c) xs, Sl actR (.slice A2 n2 c2) ys, Glob 0 errTy] W := hp_old W _ fun f hf => by
    rcases List.mem_cons.1 hf with rfl | hf
    · exact hs
    · rcases List.mem_cons.1 hf with rfl | hf
      · exact hs2
      · rcases List.mem_cons.1 hf with rfl | hf
        · exact hg
        · cases hf
  refine (keepsW A n c xs A2 n2 c2 ys W _ _ hH).2.mono fun e W' ⟨v, he, _, hv, _, hh⟩ => ?_
  subst he
  subst hv
  exact ⟨_, rfl, post_true kids full rfl (by decide) Tryz.underlying4 rfl hW' (fun e => rfl) hh⟩
theorem ledgerKeeps_row : Rows.LedgerKeepsSaid :=
  OpenClaim.holds_of_wide 5 Tryz.f5 rfl rfl rfl rfl rfl rfl rfl ⟨rfl, rfl, rfl, rfl, rfl⟩ rfl rfl rfl rfl rfl (by kernel_rfl) Tryz.func5 (by kernel_rfl)
    (of_decide_eq_true (by kernel_rfl)) (by unfold Func.isWrapper; first | (rw [if_pos (by decide +kernel)]; kernel_rfl) | (rw [if_neg (by decide +kernel)]; exact ⟨rfl, rfl⟩) | (rw [if_neg (of_decide_eq_false (by kernel_rfl))]; exact ⟨rfl, rfl⟩))
    (fun os started H enc _ => ledgerKeeps_lifted os started H enc)
theorem ledgerKeeps_card : Rows.LedgerKeepsCardSaid :=
  Claim7.holds_tied_plain_at .later [] [.handle] true (true, "28e776291f42e32cf4f3f1a5caf74a49b45530b61acf665046d6abe5f6c616a2") true
    ledgerKeeps_row (fun _ h => by cases h) (by kernel_rfl) (fun _ h => by cases h) ledgerKeeps_row_tie rfl ⟨rfl, rfl⟩ (by kernel_rfl) rfl
    (fun f fn hf hfn => by
      obtain rfl : f = 5 := Option.some.inj ((show Tryz.prog.funcNamed "arrears/arrearslaw14.LedgerKeeps" = some 5 by kernel_rfl).symm.trans hf) |>.symm
      obtain rfl : fn = Tryz.f5 := (Option.some.inj (Tryz.func5.symm.trans hfn)).symm
      exact ⟨by kernel_rfl, fun j t ht => by
        rw [Tryz.params5] at ht
        rcases j with _ | _ | j
        · obtain rfl : t = 22 := by simpa using ht.symm
          exact (show Tryz.prog.wantsStandIn 22 = false by kernel_rfl)
        · obtain rfl : t = 22 := by simpa using ht.symm
          exact (show Tryz.prog.wantsStandIn 22 = false by kernel_rfl)
        · simp at ht⟩)
    (by kernel_rfl)
#print axioms ledgerKeeps_card
end Go.Proofs.YtfemfomgmopibaaGreatDoor
