/- What a function owns and what it knows of memory: resources with footprints, facts that stay, and the rules of the operations that touch memory. -/
import Derived.Test.YtenpgmnknmnofaaDoorWkCore
set_option linter.unusedVariables false
set_option linter.unusedSimpArgs false
namespace Go.Wk

/-! ### 1. Resources, facts -/
abbrev BS := Nat → Prop
/-- A resource: what it says of its blocks. -/
structure Asn where
  at_ : World → BS → Prop
  loc : ∀ {w w' : World} {fp : BS}, at_ w fp → (∀ b, fp b → w'.heap[b]? = w.heap[b]?) → at_ w' fp
  lt : ∀ {w : World} {fp : BS} {b : Nat}, at_ w fp → fp b → b < w.heap.size
/-- A fact about blocks that nobody writes any more. -/
structure Fact where
  holds : World → BS → Prop
  mono : ∀ {w w' : World} {I I' : BS}, holds w I → (∀ b, I b → I' b) → (∀ b, I b → w'.heap[b]? = w.heap[b]?) → holds w' I'
def All (F : List Fact) (w : World) (I : BS) : Prop := ∀ f, f ∈ F → f.holds w I
/-- Resources at footprints that are apart from each other and from I, below the heap's end. -/
def Sep (w : World) (I : BS) : List Asn → BS → Prop
  | [], fp => ∀ b, ¬ fp b
  | A :: S, fp => ∃ fa fs : BS, A.at_ w fa ∧ (∀ b, fa b → ¬ I b) ∧ (∀ b, fa b → ¬ fs b) ∧ (∀ b, fp b ↔ fa b ∨ fs b) ∧ Sep w I S fs
structure Base where
  w : World
  M : BS
  I : BS
/-- The state of memory: relative to a base world of which only blocks in M may change, with what is owned and what is known. -/
structure Hp (B : Base) (S : List Asn) (F : List Fact) (w : World) : Prop where
  os : w.os = B.w.os
  tape : w.tape = B.w.tape
  output : w.output = B.w.output
  size : B.w.heap.size ≤ w.heap.size
  frame : ∀ b, b < B.w.heap.size → ¬ B.M b → w.heap[b]? = B.w.heap[b]?
  ex : ∃ I fp : BS, Sep w I S fp ∧ All F w I ∧ (∀ b, I b → B.I b ∨ B.w.heap.size ≤ b) ∧ (∀ b, B.I b → I b) ∧ (∀ b, I b → b < w.heap.size) ∧ (∀ b, fp b → B.M b ∨ B.w.heap.size ≤ b) ∧ (∀ b, fp b → ¬ I b)
theorem Sep.lt {w : World} {I : BS} : ∀ {S : List Asn} {fp : BS}, Sep w I S fp → ∀ b, fp b → b < w.heap.size
  | [], fp, h, b, hb => absurd hb (h b)
  | A :: S, fp, ⟨fa, fs, ha, _, _, hu, hs⟩, b, hb => by
    rcases (hu b).1 hb with h | h
    · exact A.lt ha h
    · exact Sep.lt hs b h
theorem Sep.off {w : World} {I : BS} : ∀ {S : List Asn} {fp : BS}, Sep w I S fp → ∀ b, fp b → ¬ I b
  | [], fp, h, b, hb => absurd hb (h b)
  | A :: S, fp, ⟨fa, fs, ha, hi, _, hu, hs⟩, b, hb => by
    rcases (hu b).1 hb with h | h
    · exact hi b h
    · exact Sep.off hs b h
theorem Sep.keep {w w' : World} {I I' : BS} : ∀ {S : List Asn} {fp : BS}, Sep w I S fp → (∀ b, fp b → w'.heap[b]? = w.heap[b]?) → (∀ b, fp b → ¬ I' b) → Sep w' I' S fp
  | [], fp, h, _, _ => h
  | A :: S, fp, ⟨fa, fs, ha, _, hd, hu, hs⟩, hk, hi => ⟨fa, fs, A.loc ha fun b hb => hk b ((hu b).2 (.inl hb)), fun b hb => hi b ((hu b).2 (.inl hb)), hd, hu, hs.keep (fun b hb => hk b ((hu b).2 (.inr hb))) fun b hb => hi b ((hu b).2 (.inr hb))⟩
theorem Sep.app {w : World} {I : BS} : ∀ {S S' : List Asn} {f f' : BS}, Sep w I S f → Sep w I S' f' → (∀ b, f b → ¬ f' b) → Sep w I (S ++ S') (fun b => f b ∨ f' b)
  | [], S', f, f', h, h', _ => by
    have : (fun b => f b ∨ f' b) = f' := by funext b; exact propext ⟨fun h1 => h1.resolve_left (h b), .inr⟩
    rw [this]; exact h'
  | A :: S, S', f, f', ⟨fa, fs, ha, hi, hd, hu, hs⟩, h', hdj => by
    refine ⟨fa, fun b => fs b ∨ f' b, ha, hi, fun b hb => ?_, fun b => ?_, hs.app h' fun b hb => hdj b ((hu b).2 (.inr hb))⟩
    · rintro (h1 | h1)
      · exact hd b hb h1
      · exact hdj b ((hu b).2 (.inl hb)) h1
    · simp only [hu b, or_assoc]
theorem Sep.split {w : World} {I : BS} : ∀ {S S' : List Asn} {f : BS}, Sep w I (S ++ S') f → ∃ f1 f2, Sep w I S f1 ∧ Sep w I S' f2 ∧ (∀ b, f1 b → ¬ f2 b) ∧ ∀ b, f b ↔ f1 b ∨ f2 b
  | [], S', f, h => ⟨fun _ => False, f, fun _ => id, h, fun _ h => h.elim, fun b => by simp⟩
  | A :: S, S', f, ⟨fa, fs, ha, hi, hd, hu, hs⟩ => by
    obtain ⟨f1, f2, h1, h2, h3, h4⟩ := Sep.split hs
    refine ⟨fun b => fa b ∨ f1 b, f2, ⟨fa, f1, ha, hi, fun b hb h => hd b hb ((h4 b).2 (.inl h)), fun _ => Iff.rfl, h1⟩, h2, ?_, fun b => ?_⟩
    · rintro b (hb | hb) h
      · exact hd b hb ((h4 b).2 (.inr h))
      · exact h3 b hb h
    · rw [hu b, h4 b, or_assoc]
theorem Sep.perm {w : World} {I : BS} {S S' : List Asn} (hp : S.Perm S') : ∀ {f : BS}, Sep w I S f → Sep w I S' f := by
  induction hp with
  | nil => exact id
  | cons A _ ih => rintro f ⟨fa, fs, ha, hi, hd, hu, hs⟩; exact ⟨fa, fs, ha, hi, hd, hu, ih hs⟩
  | swap A C S =>
    rintro f ⟨fa, fs, ha, hi, hd, hu, fc, fs', hc, hic, hdc, huc, hs⟩
    refine ⟨fc, fun b => fa b ∨ fs' b, hc, hic, fun b hb h => ?_, fun b => ?_, fa, fs', ha, hi, fun b hb h => hd b hb ((huc b).2 (.inr h)), fun _ => Iff.rfl, hs⟩
    · rcases h with h | h
      · exact hd b h ((huc b).2 (.inl hb))
      · exact hdc b hb h
    · rw [hu b, huc b]
      constructor
      · rintro (h | h | h)
        · exact .inr (.inl h)
        · exact .inl h
        · exact .inr (.inr h)
      · rintro (h | h | h)
        · exact .inr (.inl h)
        · exact .inl h
        · exact .inr (.inr h)
  | trans _ _ ih1 ih2 => exact fun h => ih2 (ih1 h)
theorem Sep.drop1 {w : World} {I : BS} {A : Asn} {S : List Asn} {f : BS} (h : Sep w I (A :: S) f) : ∃ f', Sep w I S f' ∧ ∀ b, f' b → f b := by
  obtain ⟨fa, fs, _, _, _, hu, hs⟩ := h
  exact ⟨fs, hs, fun b hb => (hu b).2 (.inr hb)⟩
theorem Hp.perm {B : Base} {S S' : List Asn} {F : List Fact} {w : World} (h : Hp B S F w) (hp : S.Perm S') : Hp B S' F w := by
  obtain ⟨h1, h2, h3, h4, h5, I, fp, hs, r⟩ := h
  exact ⟨h1, h2, h3, h4, h5, I, fp, hs.perm hp, r⟩
/-- Facts may be forgotten, or others follow. -/
theorem Hp.facts {B : Base} {S : List Asn} {F F' : List Fact} {w : World} (h : Hp B S F w) (k : ∀ I, All F w I → All F' w I) : Hp B S F' w := by
  obtain ⟨h1, h2, h3, h4, h5, I, fp, hs, ha, r⟩ := h
  exact ⟨h1, h2, h3, h4, h5, I, fp, hs, k I ha, r⟩
theorem Hp.drop {B : Base} {A : Asn} {S : List Asn} {F : List Fact} {w : World} (h : Hp B (A :: S) F w) : Hp B S F w := by
  obtain ⟨h1, h2, h3, h4, h5, I, fp, hs, ha, r1, r2, r3, r4, r5⟩ := h
  obtain ⟨f', hs', hf⟩ := hs.drop1
  exact ⟨h1, h2, h3, h4, h5, I, f', hs', ha, r1, r2, r3, fun b hb => r4 b (hf b hb), fun b hb => r5 b (hf b hb)⟩
theorem Hp.dropAll {B : Base} {S : List Asn} {F : List Fact} {w : World} (h : Hp B S F w) : Hp B [] F w := by
  induction S with
  | nil => exact h
  | cons A S ih => exact ih h.drop
/-- What is owned may be given up and known from then on. -/
def Asn.frz (A : Asn) : Fact := ⟨fun w I => ∃ fp, A.at_ w fp ∧ ∀ b, fp b → I b, fun ⟨fp, h, hi⟩ hI hw => ⟨fp, A.loc h fun b hb => hw b (hi b hb), fun b hb => hI b (hi b hb)⟩⟩
theorem Hp.freeze {B : Base} {A : Asn} {S : List Asn} {F : List Fact} {w : World} (h : Hp B (A :: S) F w) (hn : ∀ b, ¬ B.M b) : Hp B S (A.frz :: F) w := by
  obtain ⟨h1, h2, h3, h4, h5, I, fp, ⟨fa, fs, ha, hi, hd, hu, hs⟩, hall, r1, r2, r3, r4, r5⟩ := h
  refine ⟨h1, h2, h3, h4, h5, fun b => I b ∨ fa b, fs, hs.keep (fun _ _ => rfl) ?_, ?_, ?_, fun b hb => .inl (r2 b hb), ?_, fun b hb => r4 b ((hu b).2 (.inr hb)), ?_⟩
  · rintro b hb (h | h)
    · exact r5 b ((hu b).2 (.inr hb)) h
    · exact hd b h hb
  · intro f hf
    rcases List.mem_cons.1 hf with rfl | hf
    · exact ⟨fa, ha, fun b hb => .inr hb⟩
    · exact f.mono (hall f hf) (fun b hb => .inl hb) fun _ _ => rfl
  · rintro b (h | h)
    · exact r1 b h
    · exact .inr ((r4 b ((hu b).2 (.inl h))).resolve_left (hn b))
  · rintro b (h | h)
    · exact r3 b h
    · exact A.lt ha h
  · rintro b hb (h | h)
    · exact r5 b ((hu b).2 (.inr hb)) h
    · exact hd b h hb
/-- **The frame rule**: a piece of memory is handed to somebody, who hands back another piece. -/
theorem Hp.call {B : Base} {A S : List Asn} {F G : List Fact} {w : World} (h : Hp B (A ++ S) F w) (hG : ∀ I, All F w I → All G w I) :
    ∃ M I, Hp ⟨w, M, I⟩ A G w ∧ ((A = [] → ∀ b, ¬ M b)) ∧ ∀ A' G' w', Hp ⟨w, M, I⟩ A' G' w' → Hp B (A' ++ S) (G' ++ F) w' := by
  obtain ⟨h1, h2, h3, h4, h5, I, fp, hs, ha, r1, r2, r3, r4, r5⟩ := h
  obtain ⟨f1, f2, s1, s2, hd, hu⟩ := hs.split
  refine ⟨f1, I, ⟨rfl, rfl, rfl, Nat.le_refl _, fun _ _ _ => rfl, I, f1, s1, hG I ha, fun b hb => .inl hb, fun b hb => hb, r3, fun b hb => .inl hb, s1.off⟩, fun e => by subst e; exact s1, ?_⟩
  rintro A' G' w' ⟨k1, k2, k3, k4, k5, I', f', s', ha', q1, q2, q3, q4, q5⟩
  have hf2 : ∀ b, f2 b → w'.heap[b]? = w.heap[b]? := fun b hb => k5 b (s2.lt b hb) fun h => hd b h hb
  have hI : ∀ b, I b → w'.heap[b]? = w.heap[b]? := fun b hb => k5 b (r3 b hb) fun h => s1.off b h hb
  refine ⟨k1.trans h1, k2.trans h2, k3.trans h3, Nat.le_trans h4 k4, fun b hb hM => ?_, I', fun b => f' b ∨ f2 b, Sep.app s' (s2.keep hf2 ?_) ?_, ?_, ?_, fun b hb => q2 b (r2 b hb), q3, ?_, ?_⟩
  · rw [← h5 b hb hM]
    exact k5 b (Nat.lt_of_lt_of_le hb h4) fun h => by
      rcases r4 b ((hu b).2 (.inl h)) with h' | h'
      · exact hM h'
      · omega
  · intro b hb hi
    rcases q1 b hi with h | h
    · exact s2.off b hb h
    · have := s2.lt b hb; simp only at h; omega
  · intro b hb hb2
    rcases q4 b hb with h | h
    · exact hd b h hb2
    · have := s2.lt b hb2; simp only at h; omega
  · intro f hf
    rcases List.mem_append.1 hf with hf | hf
    · exact ha' f hf
    · exact f.mono (ha f hf) q2 hI
  · intro b hb
    rcases q1 b hb with h | h
    · exact r1 b h
    · exact .inr (Nat.le_trans h4 h)
  · rintro b (hb | hb)
    · rcases q4 b hb with h | h
      · exact r4 b ((hu b).2 (.inl h))
      · exact .inr (Nat.le_trans h4 h)
    · exact r4 b ((hu b).2 (.inr hb))
  · rintro b (hb | hb) hi
    · exact q5 b hb hi
    · rcases q1 b hi with h | h
      · exact s2.off b hb h
      · have := s2.lt b hb; simp only at h; omega

/-! ### 2. Search -/
class Take (S : List Asn) (a : Asn) (S' : outParam (List Asn)) : Prop where
  perm : S.Perm (a :: S')
instance (priority := 2000) Take.here (a : Asn) (S : List Asn) : Take (a :: S) a S := ⟨.refl _⟩
instance (priority := 1000) Take.there (a b : Asn) (S S' : List Asn) [h : Take S a S'] : Take (b :: S) a (b :: S') := ⟨(h.perm.cons b).trans (.swap a b S')⟩
class Pick (S A : List Asn) (S' : outParam (List Asn)) : Prop where
  perm : S.Perm (A ++ S')
instance Pick.nil (S : List Asn) : Pick S [] S := ⟨.refl _⟩
instance Pick.cons (S A S1 S2 : List Asn) (a : Asn) [h : Take S a S1] [k : Pick S1 A S2] : Pick S (a :: A) S2 := ⟨h.perm.trans (k.perm.cons a)⟩
class InF (F : List Fact) (f : Fact) : Prop where
  mem : f ∈ F
instance (priority := 2000) InF.here (f : Fact) (F : List Fact) : InF (f :: F) f := ⟨List.mem_cons_self⟩
instance (priority := 1000) InF.there (f g : Fact) (F : List Fact) [h : InF F f] : InF (g :: F) f := ⟨List.mem_cons_of_mem _ h.mem⟩
class SubF (F G : List Fact) : Prop where
  sub : ∀ f, f ∈ G → f ∈ F
instance SubF.nil (F : List Fact) : SubF F [] := ⟨fun _ h => by cases h⟩
instance SubF.cons (F G : List Fact) (f : Fact) [h : InF F f] [k : SubF F G] : SubF F (f :: G) := ⟨fun g hg => by
  rcases List.mem_cons.1 hg with rfl | hg
  · exact h.mem
  · exact k.sub g hg⟩
theorem SubF.all {F G : List Fact} [h : SubF F G] {w : World} {I : BS} (ha : All F w I) : All G w I := fun f hf => ha f (h.sub f hf)

class AppL {α : Type} (A S : List α) (R : outParam (List α)) : Prop where
  eq : R = A ++ S
instance AppL.nil {α : Type} (S : List α) : AppL [] S S := ⟨rfl⟩
instance AppL.cons {α : Type} (a : α) (A S R : List α) [h : AppL A S R] : AppL (a :: A) S (a :: R) := ⟨by rw [h.eq]; rfl⟩
/-! ### 3. Contracts -/
/-- A function's contract at a state: what it hands back ('V a'), with what is then owned and known. -/
def Ctr (P : Program) (g : Nat) (args : List Value) (w : World) (M I : BS) {α : Type} (V : α → Value) (φ : α → Prop) (A : α → List Asn) (G : α → List Fact) : Prop :=
  Exe P g args w fun v w' => ∃ a, v = V a ∧ φ a ∧ Hp ⟨w, M, I⟩ (A a) (G a) w'
/-- A call: A0 is handed over, G0 is known. -/
theorem call_rule {P : Program} {K : Value → World → Prop} {w : World} {B : Base} {S : List Asn} {F : List Fact} (H : Hp B S F w) {g : Nat} {args : List Value} {α : Type} {V : α → Value} {φ : α → Prop} {A : α → List Asn} {G : α → List Fact} {A0 : List Asn} {G0 : List Fact} {S' : List Asn} {R : α → List Asn} {N : α → List Fact}
    (h : ∀ M I, (A0 = [] → ∀ b, ¬ M b) → Hp ⟨w, M, I⟩ A0 G0 w → Ctr P g args w M I V φ A G) [hp : Pick S A0 S'] [hs : SubF F G0] [hr : ∀ a, AppL (A a) S' (R a)] [hn : ∀ a, AppL (G a) F (N a)]
    (k : ∀ a w', φ a → Hp B (R a) (N a) w' → K (V a) w') : CallK P K w (.func (.func g) #[] #[]) args := by
  obtain ⟨M, I, h0, hm, hk⟩ := (H.perm hp.perm).call (A := A0) (S := S') (G := G0) fun I ha => hs.all ha
  refine CallK_fn ((h M I hm h0).mono ?_)
  rintro v w' ⟨a, rfl, hφ, hh⟩
  refine k a w' hφ ?_
  rw [(hr a).eq, (hn a).eq]
  exact hk _ _ _ hh
end Go.Wk
