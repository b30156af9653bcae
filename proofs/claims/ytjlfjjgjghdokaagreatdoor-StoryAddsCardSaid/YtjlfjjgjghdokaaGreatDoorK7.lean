/- Several resources as one: what is hidden of them, what is said of it. -/
import Derived.Test.YtjlfjjgjghdokaaGreatDoorK6
set_option linter.unusedVariables false
set_option linter.unusedSimpArgs false
namespace Go.Wk
/-- Resources as one, of something that is hidden, of which something is so. -/
def packA {ι : Type} (p : ι → Prop) (f : ι → List Asn) : Asn where
  at_ w fp := ∃ i, p i ∧ Sep w (fun _ => False) (f i) fp
  loc := fun ⟨i, hp, h⟩ k => ⟨i, hp, h.keep k fun _ _ h => h⟩
  lt := fun ⟨_, _, h⟩ hb => h.lt _ hb
section
variable {B : Base} {S S' L : List Asn} {F : List Fact} {w : World} {ι : Type} {p : ι → Prop} {f : ι → List Asn}
theorem Hp.unpack (H : Hp B (packA p f :: S) F w) : ∃ i, p i ∧ Hp B (f i ++ S) F w := by
  obtain ⟨h1, h2, h3, h4, h5, I, fp, ⟨fa, fs, ⟨i, hp, ha⟩, hi, hd, hu, hs⟩, r1, r2, r3, r4, r5, r6⟩ := H
  refine ⟨i, hp, h1, h2, h3, h4, h5, I, fp, ?_, r1, r2, r3, r4, r5, r6⟩
  have := Sep.app (ha.keep (w' := w) (I' := I) (fun _ _ => rfl) hi) hs hd
  have e : (fun b => fa b ∨ fs b) = fp := by funext b; exact propext (hu b).symm
  rwa [e] at this
theorem Hp.pack (i : ι) (hp : p i) (H : Hp B (f i ++ S) F w) : Hp B (packA p f :: S) F w := by
  obtain ⟨h1, h2, h3, h4, h5, I, fp, hs, r⟩ := H
  obtain ⟨f1, f2, s1, s2, hd, hu⟩ := hs.split
  exact ⟨h1, h2, h3, h4, h5, I, fp, ⟨f1, f2, ⟨i, hp, s1.keep (fun _ _ => rfl) fun _ _ h => h⟩, s1.off, hd, hu, s2⟩, r⟩
/-- One of several is opened. -/
theorem Hp.open_ (H : Hp B L F w) [k : Take L (packA p f) S] : ∃ i, p i ∧ Hp B (f i ++ S) F w := Hp.unpack (H.perm k.perm)
/-- What is picked out is closed. -/
theorem Hp.close (i : ι) (hp : p i) (H : Hp B L F w) [k : Pick L (f i) S] : Hp B (packA p f :: S) F w := Hp.pack i hp (H.perm k.perm)
theorem Ctr.imp {P : Program} {g : Nat} {args : List Value} {M I : BS} {α β : Type} {V : α → Value} {φ : α → Prop} {A : α → List Asn} {G : α → List Fact} {V' : β → Value} {φ' : β → Prop} {A' : β → List Asn} {G' : β → List Fact}
    (h : Ctr P g args w M I V φ A G) (k : ∀ a w', φ a → Hp ⟨w, M, I⟩ (A a) (G a) w' → ∃ b, V a = V' b ∧ φ' b ∧ Hp ⟨w, M, I⟩ (A' b) (G' b) w') : Ctr P g args w M I V' φ' A' G' := by
  refine Exe.mono h ?_
  rintro v w' ⟨a, rfl, hφ, hh⟩
  obtain ⟨b, e, h1, h2⟩ := k a w' hφ hh
  exact ⟨b, e, h1, h2⟩
/-- A contract on a part of what is owned. -/
theorem Ctr.frame {P : Program} {g : Nat} {args : List Value} {M I : BS} {α : Type} {V : α → Value} {φ : α → Prop} {A : α → List Asn} {G : α → List Fact} {A0 : List Asn} {G0 : List Fact} {R : α → List Asn} {N : α → List Fact} (H : Hp ⟨w, M, I⟩ L F w)
    (h : ∀ M I, (A0 = [] → ∀ b, ¬ M b) → Hp ⟨w, M, I⟩ A0 G0 w → Ctr P g args w M I V φ A G) [hp : Pick L A0 S'] [hs : SubF F G0] [hr : ∀ a, AppL (A a) S' (R a)] [hn : ∀ a, AppL (G a) F (N a)] : Ctr P g args w M I V φ R N := by
  obtain ⟨M', I', h0, hm, hk⟩ := (H.perm hp.perm).call (A := A0) (S := S') (G := G0) fun I ha => hs.all ha
  refine Exe.mono (h M' I' hm h0) ?_
  rintro v w' ⟨a, rfl, hφ, hh⟩
  refine ⟨a, rfl, hφ, ?_⟩
  rw [(hr a).eq, (hn a).eq]
  exact hk _ _ _ hh
end
end Go.Wk
