/- A ledger that there isn't, what is told is nobody else's, and an error tells of which loan it is, for every key, place and account: the row of LedgerNil and its tied card; no condition but the card's own. -/
import Derived.Test.YtfemfomgmopibaaGreatDoorB22
namespace Go.Proofs.YtfemfomgmopibaaGreatDoor
open Go.ChangeShapes Go.WideShapes Go.ChangeAt Go.RowKit Go.Joins Go.Wk
set_option maxRecDepth 100000 in
theorem ledgerNil_lifted (os : Os) (started : os.Started) (H : Type) (enc : TypeId × Value → H) :
    ReturnsInHanded {} Tryz.checked os 6 .any (fun w args => (Rows.ledgerNilSpec.pre enc Tryz.prog Tryz.f6 [] false w args ∧ laidMetH Tryz.prog laidL w) ∧ sizedMet enc Tryz.prog Tryz.f6 (OpenSpec.ofChange Rows.ledgerNilSpec) false w args)
      (Rows.ledgerNilSpec.post enc Tryz.prog Tryz.f6 false true false false) := by
  refine returnsInHanded_of_change_and (C := Tryz.checked) (X := fun w _ => laidMetH Tryz.prog laidL w) (fun _ _ _ hh h => h.of_heap hh) ownK started (by kernel_rfl) Tryz.func6
    (ChangeSpec.witness_at (enc := enc) (C := Tryz.checked) (os := os) (X := fun w _ => laidMetH Tryz.prog laidL w) false (laidWorld os) #[.agg #[.int .u32 0, .int .i32 0, .int .u8 0, .int .u32 0], .int .i64 0, .int .u8 0] 8 rfl (by kernel_rfl) (by kernel_rfl) (by kernel_rfl) (by kernel_rfl) (by kernel_rfl) (laidWorld_met os _)) ?_
  intro W base args ds gs before hval0 hW _ _ hL _
  have hval : ∀ (j : Nat) t v, Tryz.f6.params[j]? = some t → args[j]? = some v → Value.okWide Tryz.prog W .any base t v := hval0
  have hW' := hW
  obtain ⟨p, q, hA0, hV, rfl, hfz, hnd⟩ := hW
  have hA : DataW.TrodAll enc Tryz.prog W 0 (fun _ => true) true Tryz.f6.params.toList args.toList ds p := hA0
  rw [Tryz.params6] at hA hval
  obtain ⟨v0, v1, v2, d0, d1, d2, p0, p1, p2, rfl, rfl, rfl, h0, h1, h2⟩ := trodAll_three hA
  obtain ⟨k, rfl, hk⟩ := open_key (hval 0 26 v0 rfl rfl) h0
  obtain ⟨i, rfl, _, _, wi⟩ := open_int Tryz.underlying3 (hval 1 3 v1 rfl rfl) h1
  obtain ⟨a, rfl, _, _, wa⟩ := open_int Tryz.underlying5 (hval 2 5 v2 rfl rfl) h2
  have hg := glob_of (handle_of_laid hL)
  have hH : Hp ⟨W, fun _ => False, oldB W⟩ [] [Glob 0 errTy] W := hp_old W _ fun f hf => by
    rcases List.mem_cons.1 hf with rfl | hf
    · exact hg
    · cases hf
  refine (nilW k hk i a W _ _ (fun _ h => h) hH).2.mono fun e W' ⟨v, he, _, hv, _, hh⟩ => ?_
  subst he
  subst hv
  exact ⟨_, rfl, post_true kids full rfl (by decide) Tryz.underlying4 rfl hW' (fun e => rfl) hh⟩
theorem ledgerNil_row : Rows.LedgerNilSaid :=
  OpenClaim.holds_of_wide 6 Tryz.f6 rfl rfl rfl rfl rfl rfl rfl ⟨rfl, rfl, rfl, rfl, rfl⟩ rfl rfl rfl rfl rfl (by kernel_rfl) Tryz.func6 (by kernel_rfl)
    (of_decide_eq_true (by kernel_rfl)) (by unfold Func.isWrapper; first | (rw [if_pos (by decide +kernel)]; kernel_rfl) | (rw [if_neg (by decide +kernel)]; exact ⟨rfl, rfl⟩) | (rw [if_neg (of_decide_eq_false (by kernel_rfl))]; exact ⟨rfl, rfl⟩))
    (fun os started H enc _ => ledgerNil_lifted os started H enc)
theorem ledgerNil_card : Rows.LedgerNilCardSaid :=
  Claim7.holds_tied_plain_at .later [] [.handle] true (true, "28e776291f42e32cf4f3f1a5caf74a49b45530b61acf665046d6abe5f6c616a2") true
    ledgerNil_row (fun _ h => by cases h) (by kernel_rfl) (fun _ h => by cases h) ledgerNil_row_tie rfl ⟨rfl, rfl⟩ (by kernel_rfl) rfl
    (fun f fn hf hfn => by
      obtain rfl : f = 6 := Option.some.inj ((show Tryz.prog.funcNamed "arrears/arrearslaw14.LedgerNil" = some 6 by kernel_rfl).symm.trans hf) |>.symm
      obtain rfl : fn = Tryz.f6 := (Option.some.inj (Tryz.func6.symm.trans hfn)).symm
      exact ⟨by kernel_rfl, fun j t ht => by
        rw [Tryz.params6] at ht
        rcases j with _ | _ | _ | j
        · obtain rfl : t = 26 := by simpa using ht.symm
          exact (show Tryz.prog.wantsStandIn 26 = false by kernel_rfl)
        · obtain rfl : t = 3 := by simpa using ht.symm
          exact (show Tryz.prog.wantsStandIn 3 = false by kernel_rfl)
        · obtain rfl : t = 5 := by simpa using ht.symm
          exact (show Tryz.prog.wantsStandIn 5 = false by kernel_rfl)
        · simp at ht⟩)
    (by kernel_rfl)
#print axioms ledgerNil_card
end Go.Proofs.YtfemfomgmopibaaGreatDoor
