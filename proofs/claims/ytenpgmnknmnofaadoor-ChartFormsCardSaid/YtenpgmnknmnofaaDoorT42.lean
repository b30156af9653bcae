/- Each entry that may be has the document's bytes, for every input: the statement's row and its card. -/
import Derived.Test.YtenpgmnknmnofaaDoorT33
import Derived.Test.YtenpgmnknmnofaaDoorT41
import Derived.Test.YtenpgmnknmnofaaDoorWkMany
namespace Go.Proofs.YtenpgmnknmnofaaDoor
open Go.ChangeShapes Go.WideShapes Go.ChangeAt Go.RowKit Go.Joins Go.Wk
section
variable {H : Type} {enc : TypeId × Value → H} {w : World} {base : Nat} {spare : Nat → Bool} {held : Bool}
set_option maxRecDepth 100000 in
theorem trod_byte (n : Nat) (cs : List Value) (x : DataW H × List MemPlace) (h : DataW.trod enc Tryd.prog w base spare held n 5 cs = some x) : ∃ (y : Nat) (p : Unit), byteR.ok y p ∧ cs = byteR.cells y p ∧ All (byteR.facts y p) w (oldB w) := by
  obtain ⟨a0, e0, _, w0⟩ := DataW.trod_int Tryd.underlying5 h
  have hb : 0 ≤ a0 ∧ a0 ≤ 255 := inK_of_wf w0
  refine ⟨a0.toNat, (), by show a0.toNat < 256; omega, ?_, fun f hf => by cases hf⟩
  rw [e0]
  show [Value.int .u8 a0] = [.int .u8 ((a0.toNat : Nat) : Int)]
  rw [show ((a0.toNat : Nat) : Int) = a0 by omega]
set_option maxRecDepth 100000 in
theorem open_bytes {b0 : Nat} {v : Value} {d : DataW H} {p : List MemPlace} (hv : Value.okWide Tryd.prog w .any b0 43 v) (h : DataW.Trod enc Tryd.prog w base spare held 43 v d p) : ∃ A n c ls, v = .slice A n c ∧ (Sl byteR (.slice A n c) ls).holds w (oldB w) :=
  sl_of_trod Tryd.underlying43 cell_5 (by decide) trod_byte h (not_agg Tryd.underlying43 hv)
end
set_option maxRecDepth 100000 in
theorem forms_lifted (os : Os) (started : os.Started) (H : Type) (enc : TypeId × Value → H) :
    ReturnsInHanded {} Tryd.checked os 4 .any (fun w args => (Rows.chartFormsSpec.pre enc Tryd.prog Tryd.f4 [] false w args ∧ laidMetH Tryd.prog laidL w) ∧ sizedMet enc Tryd.prog Tryd.f4 (OpenSpec.ofChange Rows.chartFormsSpec) false w args)
      (Rows.chartFormsSpec.post enc Tryd.prog Tryd.f4 false true false false) := by
  refine returnsInHanded_of_change_and (C := Tryd.checked) (X := fun w _ => laidMetH Tryd.prog laidL w) (fun _ _ _ hh h => h.of_heap hh) own started (by kernel_rfl) Tryd.func4
    (ChangeSpec.witness_at (enc := enc) (C := Tryd.checked) (os := os) (X := fun w _ => laidMetH Tryd.prog laidL w) false (laidWorld os) #[.agg #[.int .u32 0, .int .i32 0, .int .u8 0, .int .u32 0], .slice none 0 0, .slice none 0 0, .int .u16 0, .int .u8 0] 8 rfl (by kernel_rfl) (by kernel_rfl) (by kernel_rfl) (by kernel_rfl) (by kernel_rfl) (laidWorld_met os _)) ?_
  intro W base args ds gs before hval0 hW _ _ hL _
  have hval : ∀ (j : Nat) t v, Tryd.f4.params[j]? = some t → args[j]? = some v → Value.okWide Tryd.prog W .any base t v := hval0
  have hW' := hW
  obtain ⟨p, q, hA0, hV, rfl, hfz, hnd⟩ := hW
  have hA : DataW.TrodAll enc Tryd.prog W 0 (fun _ => true) true Tryd.f4.params.toList args.toList ds p := hA0
  rw [Tryd.params4] at hA hval
  obtain ⟨v0, v1, v2, v3, v4, d0, d1, d2, d3, d4, p0, p1, p2, p3, p4, rfl, rfl, h0, h1, h2, h3, h4⟩ := trodAll_five hA
  obtain ⟨k, rfl, hk⟩ := open_key (hval 0 25 v0 rfl rfl) h0
  obtain ⟨A, n, c, ls, rfl, hs⟩ := open_legs (hval 1 26 v1 rfl rfl) h1
  obtain ⟨B, m, d, raw, rfl, ht⟩ := open_bytes (hval 2 43 v2 rfl rfl) h2
  obtain ⟨y, rfl, _, _, wy⟩ := open_int Tryd.underlying44 (hval 3 44 v3 rfl rfl) h3
  obtain ⟨z, rfl, _, _, wz⟩ := open_int Tryd.underlying5 (hval 4 5 v4 rfl rfl) h4
  have hg := glob_of (handle_of_laid hL)
  have hH : Hp ⟨W, fun _ => False, oldB W⟩ [] [Sl legR (.slice A n c) ls, Sl byteR (.slice B m d) raw, Glob 0 errTy] W := hp_old W _ fun f hf => by
    rcases List.mem_cons.1 hf with rfl | hf
    · exact hs
    · rcases List.mem_cons.1 hf with rfl | hf
      · exact ht
      · rcases List.mem_cons.1 hf with rfl | hf
        · exact hg
        · cases hf
  have short : ∀ (x out : List Leg), made (x.take 12) out → out.length ≤ 1000 := fun x out h => by
    have hx : (x.take 12).length ≤ 12 := by simp; omega
    unfold made at h
    cases hs : sumGo (x.take 12) [] with
    | none => rw [hs] at h; rw [h]; simp
    | some m => rw [hs] at h; have := sumGo_len hs; have := h.1.length_eq; simp at *; omega
  refine (formsWalk k hk A n c ls B m d raw y z (inK_of_wf wy) (inK_of_wf wz) (short ls) W _ _ (fun _ h => h) hH).2.mono fun e W' ⟨v, he, _, hv, _, hh⟩ => ?_
  subst he
  subst hv
  exact ⟨_, rfl, post_true kids full rfl (by decide) Tryd.underlying4 rfl hW' (fun e => rfl) hh⟩
theorem forms_row : Rows.ChartFormsSaid :=
  OpenClaim.holds_of_wide 4 Tryd.f4 rfl rfl rfl rfl rfl rfl rfl ⟨rfl, rfl, rfl, rfl, rfl⟩ rfl rfl rfl rfl rfl (by kernel_rfl) Tryd.func4 (by kernel_rfl)
    (of_decide_eq_true (by kernel_rfl)) (by unfold Func.isWrapper; first | (rw [if_pos (by decide +kernel)]; kernel_rfl) | (rw [if_neg (by decide +kernel)]; exact ⟨rfl, rfl⟩) | (rw [if_neg (of_decide_eq_false (by kernel_rfl))]; exact ⟨rfl, rfl⟩))
    (fun os started H enc _ => forms_lifted os started H enc)
theorem forms_card : Rows.ChartFormsCardSaid :=
  Claim7.holds_tied_plain_at .later [] [.handle] true (true, "054c917d7d2d4d814bf66f8ada166aecf7ac34a9170a71dd03f90ee332534fb5") true
    forms_row (fun _ h => by cases h) (by kernel_rfl) (fun _ h => by cases h) chartForms_row_tie rfl ⟨rfl, rfl⟩ (by kernel_rfl) rfl
    (fun f fn hf hfn => by
      obtain rfl : f = 4 := Option.some.inj ((show Tryd.prog.funcNamed "arrears/arrearslaw13.ChartForms" = some 4 by kernel_rfl).symm.trans hf) |>.symm
      obtain rfl : fn = Tryd.f4 := (Option.some.inj (Tryd.func4.symm.trans hfn)).symm
      exact ⟨by kernel_rfl, fun j t ht => by
        rw [Tryd.params4] at ht
        rcases j with _ | _ | _ | _ | _ | j
        · obtain rfl : t = 25 := by simpa using ht.symm
          exact (show Tryd.prog.wantsStandIn 25 = false by kernel_rfl)
        · obtain rfl : t = 26 := by simpa using ht.symm
          exact (show Tryd.prog.wantsStandIn 26 = false by kernel_rfl)
        · obtain rfl : t = 43 := by simpa using ht.symm
          exact (show Tryd.prog.wantsStandIn 43 = false by kernel_rfl)
        · obtain rfl : t = 44 := by simpa using ht.symm
          exact (show Tryd.prog.wantsStandIn 44 = false by kernel_rfl)
        · obtain rfl : t = 5 := by simpa using ht.symm
          exact (show Tryd.prog.wantsStandIn 5 = false by kernel_rfl)
        · simp at ht⟩)
    (by kernel_rfl)
#print axioms forms_card
end Go.Proofs.YtenpgmnknmnofaaDoor
