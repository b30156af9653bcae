/- Keys stand in the order: the statement. -/
import Derived.Test.YtenpgmnknmnofaaRows
import Derived.ProofKit
import Derived.OpenShut
import Derived.Lib.SmallJoins
import Derived.Test.YtenpgmnknmnofaaT7
namespace Go.Proofs.Ytenpgmnknmnofaa
open Go.ChangeShapes Go.WideShapes Go.ChangeAt Go.RowKit Go.Joins Go.Wk
theorem own : ownKnob Try.prog.godebug = none := by kernel_rfl
/-- Nothing that was there changes. -/
theorem hp_kept {W W' : World} {I : BS} {S : List Asn} {F : List Fact} (h : Hp ⟨W, fun _ => False, I⟩ S F W') (may : MemPlace → Prop) : W.keptBut W' may := by
  refine ⟨h.os, h.output, fun i hi => ?_⟩
  have hf : W'.heap[i]? = W.heap[i]? := h.frame i hi id
  rw [hf]
  cases hq : W.heap[i]? with
  | none => rfl
  | some o => cases o <;> first | exact ⟨rfl, rfl, rfl, fun _ _ => rfl⟩ | exact Or.inr ⟨rfl, rfl⟩ | rfl
theorem hp_start (W : World) : Hp ⟨W, fun _ => False, fun _ => False⟩ [] [] W :=
  ⟨rfl, rfl, rfl, Nat.le_refl _, fun _ _ _ => rfl, fun _ => False, fun _ => False, fun _ h => h, (fun f hf => by cases hf), (fun b hb => hb.elim), (fun b hb => hb), (fun b hb => hb.elim), (fun b hb => hb.elim), fun b hb => hb.elim⟩
section
variable {H : Type} {enc : TypeId × Value → H} {w : World} {base : Nat} {spare : Nat → Bool} {held : Bool}
set_option maxRecDepth 100000 in
theorem open_key {b0 : Nat} {v : Value} {d : DataW H} {p : List MemPlace} (hv : Value.okWide Try.prog w .any b0 25 v) (h : DataW.Trod enc Try.prog w base spare held 25 v d p) :
    ∃ k : Key, v = keyV k ∧ d = .agg [.lit (.int .u32 k.loan), .lit (.int .i32 k.day), .lit (.int .u8 k.kind), .lit (.int .u32 k.seq)] ∧ p = [] ∧ (Lit.int .u32 k.loan).wf = true ∧ (Lit.int .i32 k.day).wf = true ∧ (Lit.int .u8 k.kind).wf = true ∧ (Lit.int .u32 k.seq).wf = true := by
  obtain ⟨v0, v1, v2, v3, y0, y1, y2, y3, n, rfl, rfl, rfl, h0, h1, h2, h3⟩ := open_agg4 Try.underlying25 (by kernel_rfl) (by kernel_rfl) hv h
  obtain ⟨a0, e0, rfl, w0⟩ := DataW.trod_int Try.underlying22 h0
  obtain ⟨a1, e1, rfl, w1⟩ := DataW.trod_int Try.underlying23 h1
  obtain ⟨a2, e2, rfl, w2⟩ := DataW.trod_int Try.underlying5 h2
  obtain ⟨a3, e3, rfl, w3⟩ := DataW.trod_int Try.underlying22 h3
  simp only [List.cons.injEq, and_true] at e0 e1 e2 e3
  subst e0 e1 e2 e3
  exact ⟨⟨a0, a1, a2, a3⟩, rfl, rfl, rfl, w0, w1, w2, w3⟩
set_option maxRecDepth 100000 in
theorem shut_key (k : Key) (w0 : (Lit.int .u32 k.loan).wf = true) (w1 : (Lit.int .i32 k.day).wf = true) (w2 : (Lit.int .u8 k.kind).wf = true) (w3 : (Lit.int .u32 k.seq).wf = true) :
    DataW.Trod enc Try.prog w base spare held 25 (keyV k) (.agg [.lit (.int .u32 k.loan), .lit (.int .i32 k.day), .lit (.int .u8 k.kind), .lit (.int .u32 k.seq)]) [] :=
  shut_agg4 Try.underlying25 (by kernel_rfl) (by kernel_rfl) (shut_int Try.underlying22 w0) (shut_int Try.underlying23 w1) (shut_int Try.underlying5 w2) (shut_int Try.underlying22 w3)
theorem shut_b (b : Bool) : DataW.Trod enc Try.prog w base spare held 4 (.bool b) (.lit (.bool b)) [] := ⟨1, by simp [DataW.trod, Value.cells, Try.underlying4]⟩
end
set_option maxRecDepth 100000 in
theorem orders_lifted (os : Os) (started : os.Started) (H : Type) (enc : TypeId × Value → H) :
    ReturnsInHanded {} Try.checked os 4 .any (Rows.chartOrdersSpec.pre6 enc Try.prog Try.f4 Rows.chartOrdersRow.domain false) (Rows.chartOrdersSpec.post enc Try.prog Try.f4 false true false false) := by
  refine returnsInHanded_of_change (C := Try.checked) own started (by kernel_rfl) Try.func4
    (ChangeSpec.witness6 (enc := enc) (C := Try.checked) false ⟨#[], #[.agg #[.int .u32 0, .int .i32 0, .int .u8 0, .int .u32 0], .agg #[.int .u32 0, .int .i32 0, .int .u8 0, .int .u32 0], .int .u8 0], []⟩ 8 (by kernel_rfl) (by kernel_rfl) (by kernel_rfl) (by kernel_rfl)) ?_
  intro W base args ds gs before hval0 hW hcnd _
  have hval : ∀ (j : Nat) t v, Try.f4.params[j]? = some t → args[j]? = some v → Value.okWide Try.prog W .any base t v := hval0
  have hW' := hW
  obtain ⟨p, q, hA0, hV, rfl, hfz, hnd⟩ := hW
  have hA : DataW.TrodAll enc Try.prog W 0 (fun _ => true) true Try.f4.params.toList args.toList ds p := hA0
  rw [Try.params4] at hA hval
  obtain ⟨v0, v1, v2, d0, d1, d2, p0, p1, p2, rfl, rfl, rfl, h0, h1, h2⟩ := trodAll_three hA
  obtain ⟨rfl, rfl⟩ := trodVars_none hV
  obtain ⟨a, rfl, rfl, rfl, wa⟩ := open_key (hval 0 25 v0 rfl rfl) h0
  obtain ⟨b, rfl, rfl, rfl, wb⟩ := open_key (hval 1 25 v1 rfl rfl) h1
  obtain ⟨n, rfl, rfl, rfl, wn⟩ := open_int Try.underlying5 (hval 2 5 v2 rfl rfl) h2
  clear hA0 hval0
  simp only [List.append_nil] at hW'
  have hn : 0 ≤ n ∧ n ≤ 255 := bounds_u8 wn
  refine (orders a b n hn.1 hn.2 W _ _ (fun _ h => h) (hp_start W)).2.mono fun e W' ⟨v, he, _, hv, _, hh⟩ => ?_
  subst he
  subst hv
  exact ⟨_, rfl, _, _, _, [], [], [], hW', trodAll_mk1 (shut_b true), trodAll_mk3 (shut_key a wa.1 wa.2.1 wa.2.2.1 wa.2.2.2) (shut_key b wb.1 wb.2.1 wb.2.2.1 wb.2.2.2) (shut_int Try.underlying5 wn), rfl, hp_kept hh _, fun h => by cases h⟩
theorem orders_holds : Rows.ChartOrdersSaid :=
  OpenClaim.holds_of_wide 4 Try.f4 rfl rfl rfl rfl rfl rfl rfl ⟨rfl, rfl, rfl, rfl, rfl⟩ rfl rfl rfl rfl rfl (by kernel_rfl) Try.func4 (by kernel_rfl)
    (of_decide_eq_true (by kernel_rfl)) (by unfold Func.isWrapper; first | (rw [if_pos (by decide +kernel)]; kernel_rfl) | (rw [if_neg (by decide +kernel)]; exact ⟨rfl, rfl⟩))
    (fun os started H enc _ => orders_lifted os started H enc)
#print axioms orders_holds
end Go.Proofs.Ytenpgmnknmnofaa
