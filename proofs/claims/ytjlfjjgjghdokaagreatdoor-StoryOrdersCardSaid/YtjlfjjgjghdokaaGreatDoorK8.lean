/- The shelf's contracts at the state of ZWkHeap: what a library function leaves lies as it lay. -/
import Derived.Test.YtjlfjjgjghdokaaGreatDoorK7
import Derived.Below
import Derived.Deep.Draws
import Derived.Lib.LaidTab
import Derived.Lib.ConvBytes
import Derived.Sort.Grow
set_option linter.unusedVariables false
set_option linter.unusedSimpArgs false
namespace Go.Wk
open Go.RowKit Go.Lib Go.Sort
section
variable {B : Base} {S : List Asn} {F : List Fact} {w w' : World}
/-- Old blocks as they were: what is owned and known stays. -/
theorem Hp.below (H : Hp B S F w) (h : Below w.heap.size w w') : Hp B S F w' := by
  obtain ⟨h1, h2, h3, h4, h5, I, fp, hs, ha, r1, r2, r3, r4, r5⟩ := H
  refine ⟨h.os.trans h1, h.tape.trans h2, h.output.trans h3, Nat.le_trans h4 h.size, fun b hb hM => (h.block b (Nat.lt_of_lt_of_le hb h4)).trans (h5 b hb hM), I, fp, hs.keep (fun b hb => h.block b (hs.lt b hb)) r5, fun f hf => f.mono (ha f hf) (fun _ hb => hb) fun b hb => h.block b (r3 b hb), r1, r2, fun b hb => Nat.lt_of_lt_of_le (r3 b hb) h.size, r4, r5⟩
theorem below_drew (w : World) (n : Nat) : Below w.heap.size w (w.drewN n) := ⟨rfl, rfl, rfl, Nat.le_refl _, fun _ _ => rfl⟩
theorem below_grow (w : World) (n : Nat) (os : Array Obj) : Below w.heap.size w (grow (w.drewN n) os) := by
  refine ⟨rfl, rfl, rfl, ?_, fun k hk => ?_⟩
  · show w.heap.size ≤ (w.heap ++ os).size
    simp
  · show (w.heap ++ os)[k]? = _
    rw [Array.getElem?_append_left hk]
/-- A contract of the shelf: a value, and what was there as it was. -/
theorem Ctr.of_below {P : Program} {g : Nat} {args : List Value} {M I : BS} {α : Type} {V : α → Value} {φ : α → Prop} (H : Hp ⟨w, M, I⟩ S F w) (hc : ∀ as w, (callFunc g as).run P w = .ok (.enter g as) w)
    (h : Calls P g args.toArray w fun e w' => ∃ a, e = .returned (V a) ∧ φ a ∧ Below w.heap.size w w') : Ctr P g args w M I V φ (fun _ => S) (fun _ => F) := by
  refine ⟨hc, h.mono ?_⟩
  rintro e w' ⟨a, rfl, hφ, hb⟩
  exact ⟨V a, rfl, a, rfl, hφ, H.below hb⟩
/-- The same where new blocks are told. -/
theorem Ctr.of_calls {P : Program} {g : Nat} {args : List Value} {M I : BS} {α : Type} {V : α → Value} {φ : α → Prop} {A : α → List Asn} {G : α → List Fact} (hc : ∀ as w, (callFunc g as).run P w = .ok (.enter g as) w)
    (h : Calls P g args.toArray w fun e w' => ∃ a, e = .returned (V a) ∧ φ a ∧ Hp ⟨w, M, I⟩ (A a) (G a) w') : Ctr P g args w M I V φ A G := by
  refine ⟨hc, h.mono ?_⟩
  rintro e w' ⟨a, rfl, hφ, hb⟩
  exact ⟨V a, rfl, a, rfl, hφ, hb⟩
end
/-- A LOOP with several ways out by one jump: what holds at each of them. -/
theorem loop_out {P : Program} {T : Tab} (hT : T.Ok P) {n : Nat} {body : Code} {Q : Exit → Env → World → Prop} {e : Env} {w : World} {σ τ : Type} (m id : Nat) (L : σ → List (Nat × Value)) (W : σ → World → Prop) (μ : σ → Nat) (s0 : σ) (L2 : τ → List (Nat × Value)) (W2 : τ → World → Prop)
    (hm : wmask body = m) (hk : codeOk n body = true) (h0 : Has e (L s0)) (hw : W s0 w)
    (round : ∀ s j w, W s w → ev P T n body (fun x e' w' => match x with
      | .normal => ∃ s', Has e' (L s') ∧ μ s' < μ s ∧ W s' w'
      | .exit i => bif Nat.beq i id then (∃ t, Has e' (L2 t) ∧ W2 t w') else Q (.exit i) e' w'
      | x => Q x e' w') (sets (havoc m e j) (L s)) w)
    (out : ∀ t j w, W2 t w → Q (.exit id) (sets (havoc m e j) (L2 t)) w) : CodeK P n (.loop body) Q e w := by
  refine ⟨fun r ds a hf => ?_⟩
  refine wpIn_loop_ghost (fun k a w => ∃ s e', μ s = k ∧ Fits ds n e' a ∧ Off m e e' ∧ Has e' (L s) ∧ W s w) (μ s0) ⟨s0, e, rfl, hf, Off.refl _ _, h0, hw⟩ ?_
  rintro k a w ⟨s, e', rfl, hf', ho, hh, hw'⟩
  have hr := ev_frame body (round s e' w hw')
  rw [← sets_of ho hh] at hr
  refine wpIn_mono (ev_sound hT body _ e' w a hk hf' hr) ?_
  rintro x a1 w1 ⟨e1, hf1, hq, ho1⟩
  have ho1' : Off m e e1 := ho.trans (hm ▸ ho1)
  cases x with
  | normal =>
    obtain ⟨s', hh', hlt, hw1⟩ := hq
    exact ⟨μ s', hlt, s', e1, rfl, hf1, ho1', hh', hw1⟩
  | exit i =>
    refine ⟨e1, hf1, ?_, by show Off (wmask body) e e1; rw [hm]; exact ho1'⟩
    cases hb : Nat.beq i id with
    | true =>
      have hi := Nat.eq_of_beq_eq_true hb
      subst hi
      simp only [hb, cond_true] at hq
      obtain ⟨t, ht, hw2⟩ := hq
      have := out t e1 w1 hw2
      rw [← sets_of ho1' ht] at this
      exact this
    | false => simp only [hb, cond_false] at hq; exact hq
  | _ => exact ⟨e1, hf1, hq, by show Off (wmask body) e e1; rw [hm]; exact ho1'⟩
/-- A package-level table that nobody writes. -/
def TabF (P : Program) (g : Nat) (name : String) (k : IntKind) (zs : List Int) (hg : P.globalNamed name = some g) : Fact where
  holds w I := I g ∧ TabIs P w name k zs
  mono := fun {w w' I I'} h hI hw => ⟨hI _ h.1, by
    have h2 := h.2
    unfold TabIs World.var? at h2 ⊢
    rw [hg] at h2 ⊢
    have e := hw g h.1
    rw [Option.bind_some] at h2 ⊢
    rw [e]; exact h2⟩
end Go.Wk
