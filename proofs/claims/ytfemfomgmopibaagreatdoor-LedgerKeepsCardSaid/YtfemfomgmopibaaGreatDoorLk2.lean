/- What a function owns and what it knows of memory: resources with footprints, facts that stay, and the rules of the operations that touch memory. -/
import Derived.Test.YtfemfomgmopibaaGreatDoorLk1
import Derived.Laws.AppendOwn
import Derived.Laws.OwnMore
import Derived.Laws.IdiomCopy
import Derived.Maps.AppendAt
set_option linter.unusedVariables false
set_option linter.unusedSimpArgs false
namespace Go.Wk

/-! ### 1. Resources, facts -/
abbrev BS := Nat → Prop
/-- A resource: what it says of its blocks. -/
structure Asn where
  at_ : World → BS → Prop
  loc : ∀ {w w' : World} {fp : BS}, at_ w fp → (∀ b, fp b → w'.heap[b]? = w.heap[b]?) → at_ w' fp
  lt : ∀ {w : World} {fp : BS} {b : Nat}, at_ w fp → fp b → b < w.heap.size
/-- A fact about blocks that nobody writes any more. -/
structure Fact where
  holds : World → BS → Prop
  mono : ∀ {w w' : World} {I I' : BS}, holds w I → (∀ b, I b → I' b) → (∀ b, I b → w'.heap[b]? = w.heap[b]?) → holds w' I'
def All (F : List Fact) (w : World) (I : BS) : Prop := ∀ f, f ∈ F → f.holds w I
/-- Resources at footprints that are apart from each other and from I, below the heap's end. -/
def Sep (w : World) (I : BS) : List Asn → BS → Prop
  | [], fp => ∀ b, ¬ fp b
  | A :: S, fp => ∃ fa fs : BS, A.at_ w fa ∧ (∀ b, fa b → ¬ I b) ∧ (∀ b, fa b → ¬ fs b) ∧ (∀ b, fp b ↔ fa b ∨ fs b) ∧ Sep w I S fs
/-- Is it counted how often the tape was asked? -/
class Mode where
  strict : Prop
instance Mode.loose : Mode := ⟨False⟩
structure Base where
  w : World
  M : BS
  I : BS
/-- The state of memory: relative to a base world of which only blocks in M may change, with what is owned and what is known. -/
structure Hp [Mode] (B : Base) (S : List Asn) (F : List Fact) (w : World) : Prop where
  os : w.os = B.w.os
  tape : w.tape = B.w.tape
  output : w.output = B.w.output ∧ (Mode.strict → B.w.drawn ≤ w.drawn)
  size : B.w.heap.size ≤ w.heap.size
  frame : ∀ b, b < B.w.heap.size → ¬ B.M b → w.heap[b]? = B.w.heap[b]?
  ex : ∃ I fp : BS, Sep w I S fp ∧ All F w I ∧ (∀ b, I b → B.I b ∨ B.w.heap.size ≤ b) ∧ (∀ b, B.I b → I b) ∧ (∀ b, I b → b < w.heap.size) ∧ (∀ b, fp b → B.M b ∨ B.w.heap.size ≤ b) ∧ (∀ b, fp b → ¬ I b)
theorem Sep.lt {w : World} {I : BS} : ∀ {S : List Asn} {fp : BS}, Sep w I S fp → ∀ b, fp b → b < w.heap.size
  | [], fp, h, b, hb => absurd hb (h b)
  | A :: S, fp, ⟨fa, fs, ha, _, _, hu, hs⟩, b, hb => by
    rcases (hu b).1 hb with h | h
    · exact A.lt ha h
    · exact Sep.lt hs b h
theorem Sep.off {w : World} {I : BS} : ∀ {S : List Asn} {fp : BS}, Sep w I S fp → ∀ b, fp b → ¬ I b
  | [], fp, h, b, hb => absurd hb (h b)
  | A :: S, fp, ⟨fa, fs, ha, hi, _, hu, hs⟩, b, hb => by
    rcases (hu b).1 hb with h | h
    · exact hi b h
    · exact Sep.off hs b h
theorem Sep.keep {w w' : World} {I I' : BS} : ∀ {S : List Asn} {fp : BS}, Sep w I S fp → (∀ b, fp b → w'.heap[b]? = w.heap[b]?) → (∀ b, fp b → ¬ I' b) → Sep w' I' S fp
  | [], fp, h, _, _ => h
  | A :: S, fp, ⟨fa, fs, ha, _, hd, hu, hs⟩, hk, hi => ⟨fa, fs, A.loc ha fun b hb => hk b ((hu b).2 (.inl hb)), fun b hb => hi b ((hu b).2 (.inl hb)), hd, hu, hs.keep (fun b hb => hk b ((hu b).2 (.inr hb))) fun b hb => hi b ((hu b).2 (.inr hb))⟩
theorem Sep.app {w : World} {I : BS} : ∀ {S S' : List Asn} {f f' : BS}, Sep w I S f → Sep w I S' f' → (∀ b, f b → ¬ f' b) → Sep w I (S ++ S') (fun b => f b ∨ f' b)
  | [], S', f, f', h, h', _ => by
    have : (fun b => f b ∨ f' b) = f' := by funext b; exact propext ⟨fun h1 => h1.resolve_left (h b), .inr⟩
    rw [this]; exact h'
  | A :: S, S', f, f', ⟨fa, fs, ha, hi, hd, hu, hs⟩, h', hdj => by
    refine ⟨fa, fun b => fs b ∨ f' b, ha, hi, fun b hb => ?_, fun b => ?_, hs.app h' fun b hb => hdj b ((hu b).2 (.inr hb))⟩
    · rintro (h1 | h1)
      · exact hd b hb h1
      · exact hdj b ((hu b).2 (.inl hb)) h1
    · simp only [hu b, or_assoc]
theorem Sep.split {w : World} {I : BS} : ∀ {S S' : List Asn} {f : BS}, Sep w I (S ++ S') f → ∃ f1 f2, Sep w I S f1 ∧ Sep w I S' f2 ∧ (∀ b, f1 b → ¬ f2 b) ∧ ∀ b, f b ↔ f1 b ∨ f2 b
  | [], S', f, h => ⟨fun _ => False, f, fun _ => id, h, fun _ h => h.elim, fun b => by simp⟩
  | A :: S, S', f, ⟨fa, fs, ha, hi, hd, hu, hs⟩ => by
    obtain ⟨f1, f2, h1, h2, h3, h4⟩ := Sep.split hs
    refine ⟨fun b => fa b ∨ f1 b, f2, ⟨fa, f1, ha, hi, fun b hb h => hd b hb ((h4 b).2 (.inl h)), fun _ => Iff.rfl, h1⟩, h2, ?_, fun b => ?_⟩
    · rintro b (hb | hb) h
      · exact hd b hb ((h4 b).2 (.inr h))
      · exact h3 b hb h
    · rw [hu b, h4 b, or_assoc]
theorem Sep.perm {w : World} {I : BS} {S S' : List Asn} (hp : S.Perm S') : ∀ {f : BS}, Sep w I S f → Sep w I S' f := by
  induction hp with
  | nil => exact id
  | cons A _ ih => rintro f ⟨fa, fs, ha, hi, hd, hu, hs⟩; exact ⟨fa, fs, ha, hi, hd, hu, ih hs⟩
  | swap A C S =>
    rintro f ⟨fa, fs, ha, hi, hd, hu, fc, fs', hc, hic, hdc, huc, hs⟩
    refine ⟨fc, fun b => fa b ∨ fs' b, hc, hic, fun b hb h => ?_, fun b => ?_, fa, fs', ha, hi, fun b hb h => hd b hb ((huc b).2 (.inr h)), fun _ => Iff.rfl, hs⟩
    · rcases h with h | h
      · exact hd b h ((huc b).2 (.inl hb))
      · exact hdc b hb h
    · rw [hu b, huc b]
      constructor
      · rintro (h | h | h)
        · exact .inr (.inl h)
        · exact .inl h
        · exact .inr (.inr h)
      · rintro (h | h | h)
        · exact .inr (.inl h)
        · exact .inl h
        · exact .inr (.inr h)
  | trans _ _ ih1 ih2 => exact fun h => ih2 (ih1 h)
theorem Sep.drop1 {w : World} {I : BS} {A : Asn} {S : List Asn} {f : BS} (h : Sep w I (A :: S) f) : ∃ f', Sep w I S f' ∧ ∀ b, f' b → f b := by
  obtain ⟨fa, fs, _, _, _, hu, hs⟩ := h
  exact ⟨fs, hs, fun b hb => (hu b).2 (.inr hb)⟩
theorem Hp.perm [Mode] {B : Base} {S S' : List Asn} {F : List Fact} {w : World} (h : Hp B S F w) (hp : S.Perm S') : Hp B S' F w := by
  obtain ⟨h1, h2, h3, h4, h5, I, fp, hs, r⟩ := h
  exact ⟨h1, h2, h3, h4, h5, I, fp, hs.perm hp, r⟩
/-- Facts may be forgotten, or others follow. -/
theorem Hp.facts [Mode] {B : Base} {S : List Asn} {F F' : List Fact} {w : World} (h : Hp B S F w) (k : ∀ I, All F w I → All F' w I) : Hp B S F' w := by
  obtain ⟨h1, h2, h3, h4, h5, I, fp, hs, ha, r⟩ := h
  exact ⟨h1, h2, h3, h4, h5, I, fp, hs, k I ha, r⟩
theorem Hp.drop [Mode] {B : Base} {A : Asn} {S : List Asn} {F : List Fact} {w : World} (h : Hp B (A :: S) F w) : Hp B S F w := by
  obtain ⟨h1, h2, h3, h4, h5, I, fp, hs, ha, r1, r2, r3, r4, r5⟩ := h
  obtain ⟨f', hs', hf⟩ := hs.drop1
  exact ⟨h1, h2, h3, h4, h5, I, f', hs', ha, r1, r2, r3, fun b hb => r4 b (hf b hb), fun b hb => r5 b (hf b hb)⟩
theorem Hp.dropAll [Mode] {B : Base} {S : List Asn} {F : List Fact} {w : World} (h : Hp B S F w) : Hp B [] F w := by
  induction S with
  | nil => exact h
  | cons A S ih => exact ih h.drop
/-- What is owned may be given up and known from then on. -/
def Asn.frz (A : Asn) : Fact := ⟨fun w I => ∃ fp, A.at_ w fp ∧ ∀ b, fp b → I b, fun ⟨fp, h, hi⟩ hI hw => ⟨fp, A.loc h fun b hb => hw b (hi b hb), fun b hb => hI b (hi b hb)⟩⟩
theorem Hp.freeze [Mode] {B : Base} {A : Asn} {S : List Asn} {F : List Fact} {w : World} (h : Hp B (A :: S) F w) (hn : ∀ b, ¬ B.M b) : Hp B S (A.frz :: F) w := by
  obtain ⟨h1, h2, h3, h4, h5, I, fp, ⟨fa, fs, ha, hi, hd, hu, hs⟩, hall, r1, r2, r3, r4, r5⟩ := h
  refine ⟨h1, h2, h3, h4, h5, fun b => I b ∨ fa b, fs, hs.keep (fun _ _ => rfl) ?_, ?_, ?_, fun b hb => .inl (r2 b hb), ?_, fun b hb => r4 b ((hu b).2 (.inr hb)), ?_⟩
  · rintro b hb (h | h)
    · exact r5 b ((hu b).2 (.inr hb)) h
    · exact hd b h hb
  · intro f hf
    rcases List.mem_cons.1 hf with rfl | hf
    · exact ⟨fa, ha, fun b hb => .inr hb⟩
    · exact f.mono (hall f hf) (fun b hb => .inl hb) fun _ _ => rfl
  · rintro b (h | h)
    · exact r1 b h
    · exact .inr ((r4 b ((hu b).2 (.inl h))).resolve_left (hn b))
  · rintro b (h | h)
    · exact r3 b h
    · exact A.lt ha h
  · rintro b hb (h | h)
    · exact r5 b ((hu b).2 (.inr hb)) h
    · exact hd b h hb
/-- **The frame rule**: a piece of memory is handed to somebody, who hands back another piece. -/
theorem Hp.call [Mode] {B : Base} {A S : List Asn} {F G : List Fact} {w : World} (h : Hp B (A ++ S) F w) (hG : ∀ I, All F w I → All G w I) :
    ∃ M I, Hp ⟨w, M, I⟩ A G w ∧ ((A = [] → ∀ b, ¬ M b)) ∧ ∀ A' G' w', Hp ⟨w, M, I⟩ A' G' w' → Hp B (A' ++ S) (G' ++ F) w' := by
  obtain ⟨h1, h2, h3, h4, h5, I, fp, hs, ha, r1, r2, r3, r4, r5⟩ := h
  obtain ⟨f1, f2, s1, s2, hd, hu⟩ := hs.split
  refine ⟨f1, I, ⟨rfl, rfl, ⟨rfl, fun _ => Nat.le_refl _⟩, Nat.le_refl _, fun _ _ _ => rfl, I, f1, s1, hG I ha, fun b hb => .inl hb, fun b hb => hb, r3, fun b hb => .inl hb, s1.off⟩, fun e => by subst e; exact s1, ?_⟩
  rintro A' G' w' ⟨k1, k2, k3, k4, k5, I', f', s', ha', q1, q2, q3, q4, q5⟩
  have hf2 : ∀ b, f2 b → w'.heap[b]? = w.heap[b]? := fun b hb => k5 b (s2.lt b hb) fun h => hd b h hb
  have hI : ∀ b, I b → w'.heap[b]? = w.heap[b]? := fun b hb => k5 b (r3 b hb) fun h => s1.off b h hb
  refine ⟨k1.trans h1, k2.trans h2, ⟨k3.1.trans h3.1, fun q => Nat.le_trans (h3.2 q) (k3.2 q)⟩, Nat.le_trans h4 k4, fun b hb hM => ?_, I', fun b => f' b ∨ f2 b, Sep.app s' (s2.keep hf2 ?_) ?_, ?_, ?_, fun b hb => q2 b (r2 b hb), q3, ?_, ?_⟩
  · rw [← h5 b hb hM]
    exact k5 b (Nat.lt_of_lt_of_le hb h4) fun h => by
      rcases r4 b ((hu b).2 (.inl h)) with h' | h'
      · exact hM h'
      · omega
  · intro b hb hi
    rcases q1 b hi with h | h
    · exact s2.off b hb h
    · have := s2.lt b hb; simp only at h; omega
  · intro b hb hb2
    rcases q4 b hb with h | h
    · exact hd b h hb2
    · have := s2.lt b hb2; simp only at h; omega
  · intro f hf
    rcases List.mem_append.1 hf with hf | hf
    · exact ha' f hf
    · exact f.mono (ha f hf) q2 hI
  · intro b hb
    rcases q1 b hb with h | h
    · exact r1 b h
    · exact .inr (Nat.le_trans h4 h)
  · rintro b (hb | hb)
    · rcases q4 b hb with h | h
      · exact r4 b ((hu b).2 (.inl h))
      · exact .inr (Nat.le_trans h4 h)
    · exact r4 b ((hu b).2 (.inr hb))
  · rintro b (hb | hb) hi
    · exact q5 b hb hi
    · rcases q1 b hi with h | h
      · exact s2.off b hb h
      · have := s2.lt b hb; simp only at h; omega

/-! ### 2. Search -/
class Take (S : List Asn) (a : Asn) (S' : outParam (List Asn)) : Prop where
  perm : S.Perm (a :: S')
instance (priority := 2000) Take.here (a : Asn) (S : List Asn) : Take (a :: S) a S := ⟨.refl _⟩
instance (priority := 1000) Take.there (a b : Asn) (S S' : List Asn) [h : Take S a S'] : Take (b :: S) a (b :: S') := ⟨(h.perm.cons b).trans (.swap a b S')⟩
class Pick (S A : List Asn) (S' : outParam (List Asn)) : Prop where
  perm : S.Perm (A ++ S')
instance Pick.nil (S : List Asn) : Pick S [] S := ⟨.refl _⟩
instance Pick.cons (S A S1 S2 : List Asn) (a : Asn) [h : Take S a S1] [k : Pick S1 A S2] : Pick S (a :: A) S2 := ⟨h.perm.trans (k.perm.cons a)⟩
class InF (F : List Fact) (f : Fact) : Prop where
  mem : f ∈ F
instance (priority := 2000) InF.here (f : Fact) (F : List Fact) : InF (f :: F) f := ⟨List.mem_cons_self⟩
instance (priority := 1000) InF.there (f g : Fact) (F : List Fact) [h : InF F f] : InF (g :: F) f := ⟨List.mem_cons_of_mem _ h.mem⟩
class SubF (F G : List Fact) : Prop where
  sub : ∀ f, f ∈ G → f ∈ F
instance SubF.nil (F : List Fact) : SubF F [] := ⟨fun _ h => by cases h⟩
instance SubF.cons (F G : List Fact) (f : Fact) [h : InF F f] [k : SubF F G] : SubF F (f :: G) := ⟨fun g hg => by
  rcases List.mem_cons.1 hg with rfl | hg
  · exact h.mem
  · exact k.sub g hg⟩
theorem SubF.all {F G : List Fact} [h : SubF F G] {w : World} {I : BS} (ha : All F w I) : All G w I := fun f hf => ha f (h.sub f hf)

class AppL {α : Type} (A S : List α) (R : outParam (List α)) : Prop where
  eq : R = A ++ S
instance AppL.nil {α : Type} (S : List α) : AppL [] S S := ⟨rfl⟩
instance AppL.cons {α : Type} (a : α) (A S R : List α) [h : AppL A S R] : AppL (a :: A) S (a :: R) := ⟨by rw [h.eq]; rfl⟩
/-! ### 3. Contracts -/
/-- A function's contract at a state: what it hands back ('V a'), with what is then owned and known. -/
def Ctr [Mode] (P : Program) (g : Nat) (args : List Value) (w : World) (M I : BS) {α : Type} (V : α → Value) (φ : α → Prop) (A : α → List Asn) (G : α → List Fact) : Prop :=
  Exe P g args w fun v w' => ∃ a, v = V a ∧ φ a ∧ Hp ⟨w, M, I⟩ (A a) (G a) w'
/-- A call: A0 is handed over, G0 is known. -/
theorem call_rule [Mode] {P : Program} {K : Value → World → Prop} {w : World} {B : Base} {S : List Asn} {F : List Fact} (H : Hp B S F w) {g : Nat} {args : List Value} {α : Type} {V : α → Value} {φ : α → Prop} {A : α → List Asn} {G : α → List Fact} {A0 : List Asn} {G0 : List Fact} {S' : List Asn} {R : α → List Asn} {N : α → List Fact}
    (h : ∀ M I, (A0 = [] → ∀ b, ¬ M b) → Hp ⟨w, M, I⟩ A0 G0 w → Ctr P g args w M I V φ A G) [hp : Pick S A0 S'] [hs : SubF F G0] [hr : ∀ a, AppL (A a) S' (R a)] [hn : ∀ a, AppL (G a) F (N a)]
    (k : ∀ a w', φ a → Hp B (R a) (N a) w' → K (V a) w') : CallK P K w (.func (.func g) #[] #[]) args := by
  obtain ⟨M, I, h0, hm, hk⟩ := (H.perm hp.perm).call (A := A0) (S := S') (G := G0) fun I ha => hs.all ha
  refine CallK_fn ((h M I hm h0).mono ?_)
  rintro v w' ⟨a, rfl, hφ, hh⟩
  refine k a w' hφ ?_
  rw [(hr a).eq, (hn a).eq]
  exact hk _ _ _ hh
end Go.Wk
/- The rules of the operations that touch memory, at the state of ZWkHeap. -/
set_option linter.unusedVariables false
set_option linter.unusedSimpArgs false
namespace Go.Wk

/-! ### 1. Blocks of the call's own -/
def blkO (n : Nat) (o : Obj) : Asn where
  at_ w fp := (∀ b, fp b ↔ b = n) ∧ w.heap[n]? = some o
  loc := fun ⟨h1, h2⟩ k => ⟨h1, by rw [k n ((h1 n).2 rfl)]; exact h2⟩
  lt := fun ⟨h1, h2⟩ hb => by rw [(h1 _).1 hb]; exact (Array.getElem?_eq_some_iff.1 h2).1
abbrev blk (n : Nat) (cs : List Value) (t : TypeId) : Asn := blkO n (.cells cs.toArray t (0, 0))
class TakeO (S : List Asn) (n : Nat) (o : outParam Obj) (S' : outParam (List Asn)) : Prop where
  perm : S.Perm (blkO n o :: S')
instance (priority := 2000) TakeO.here (n : Nat) (o : Obj) (S : List Asn) : TakeO (blkO n o :: S) n o S := ⟨.refl _⟩
instance (priority := 1000) TakeO.there (n : Nat) (o : Obj) (b : Asn) (S S' : List Asn) [h : TakeO S n o S'] : TakeO (b :: S) n o (b :: S') := ⟨(h.perm.cons b).trans (.swap _ b S')⟩
class TakeB (S : List Asn) (n : Nat) (cs : outParam (List Value)) (t : outParam TypeId) (S' : outParam (List Asn)) : Prop where
  perm : S.Perm (blk n cs t :: S')
instance (priority := 2000) TakeB.here (n : Nat) (cs : List Value) (t : TypeId) (S : List Asn) : TakeB (blk n cs t :: S) n cs t S := ⟨.refl _⟩
instance (priority := 1000) TakeB.there (n : Nat) (cs : List Value) (t : TypeId) (b : Asn) (S S' : List Asn) [h : TakeB S n cs t S'] : TakeB (b :: S) n cs t (b :: S') := ⟨(h.perm.cons b).trans (.swap _ b S')⟩
theorem heap_alloc_lt (w : World) (o : Obj) {b : Nat} (h : b < w.heap.size) : (w.alloc o).heap[b]? = w.heap[b]? := by
  show (w.heap.push o)[b]? = _
  rw [Array.getElem?_push, if_neg (by omega)]
theorem heap_alloc_at (w : World) (o : Obj) : (w.alloc o).heap[w.heap.size]? = some o := by
  show (w.heap.push o)[w.heap.size]? = _
  simp
theorem Hp.alloc [Mode] {B : Base} {S : List Asn} {F : List Fact} {w : World} (h : Hp B S F w) (o : Obj) : Hp B (blkO w.heap.size o :: S) F (w.alloc o) := by
  obtain ⟨h1, h2, h3, h4, h5, I, fp, hs, ha, r1, r2, r3, r4, r5⟩ := h
  refine ⟨h1, h2, h3, by simp; omega, fun b hb hM => by rw [heap_alloc_lt _ _ (by omega)]; exact h5 b hb hM, I, fun b => b = w.heap.size ∨ fp b, ⟨fun b => b = w.heap.size, fp, ⟨fun _ => Iff.rfl, heap_alloc_at w o⟩, ?_, ?_, fun _ => Iff.rfl, ?_⟩, ?_, r1, r2, fun b hb => by have := r3 b hb; simp; omega, ?_, ?_⟩
  · intro b hb hi
    subst hb
    exact absurd (r3 _ hi) (Nat.lt_irrefl _)
  · intro b hb hf
    subst hb
    exact absurd (hs.lt _ hf) (Nat.lt_irrefl _)
  · exact hs.keep (fun b hb => heap_alloc_lt _ _ (hs.lt b hb)) fun b hb => hs.off b hb
  · exact fun f hf => f.mono (ha f hf) (fun _ hb => hb) fun b hb => heap_alloc_lt _ _ (r3 b hb)
  · rintro b (hb | hb)
    · subst hb; exact .inr h4
    · exact r4 b hb
  · rintro b (hb | hb) hi
    · subst hb; exact absurd (r3 _ hi) (Nat.lt_irrefl _)
    · exact r5 b hb hi
/-- What is owned says of the world what it says. -/
theorem Hp.own [Mode] {B : Base} {S S' : List Asn} {F : List Fact} {w : World} {A : Asn} (h : Hp B S F w) [hp : Take S A S'] : ∃ fa, A.at_ w fa := by
  obtain ⟨_, _, _, _, _, I, fp, ⟨fa, fs, ha, _⟩, _⟩ := h.perm hp.perm
  exact ⟨fa, ha⟩
theorem Hp.fact [Mode] {B : Base} {S : List Asn} {F : List Fact} {w : World} {f : Fact} (h : Hp B S F w) [hp : InF F f] : ∃ I, f.holds w I := by
  obtain ⟨_, _, _, _, _, I, fp, _, ha, _⟩ := h
  exact ⟨I, ha f hp.mem⟩
/-- A step of the world that touches what A holds alone, and leaves A' there. -/
theorem Hp.step [Mode] {B : Base} {S S' : List Asn} {F : List Fact} {w w' : World} {A A' : Asn} (h : Hp B S F w) [hp : Take S A S'] (ho : w'.os = w.os) (ht : w'.tape = w.tape) (hu : w'.output = w.output) (hz : w.heap.size ≤ w'.heap.size)
    (k : ∀ fa, A.at_ w fa → (∀ b, b < w.heap.size → ¬ fa b → w'.heap[b]? = w.heap[b]?) ∧ ∃ fa', A'.at_ w' fa' ∧ ∀ b, fa' b → fa b ∨ w.heap.size ≤ b) (hdr : Mode.strict → w.drawn ≤ w'.drawn := by first | exact fun _ => Nat.le_refl _ | exact fun _ => Nat.le_succ _ | exact fun q => False.elim q | (intro; assumption)) : Hp B (A' :: S') F w' := by
  obtain ⟨M, I, h0, _, hk⟩ := (h.perm hp.perm).call (A := [A]) (S := S') (G := []) fun I _ f hf => by cases hf
  obtain ⟨_, _, _, _, _, I', fp, ⟨fa, fs, ha, hi, hd, hu', hs⟩, hall, q1, q2, q3, q4, q5⟩ := h0
  obtain ⟨hfr, fa', ha', hn⟩ := k fa ha
  refine hk [A'] [] w' ⟨ho, ht, ⟨hu, hdr⟩, hz, fun b hb hM => hfr b hb fun hf => hM ?_, I', fa', ⟨fa', fun _ => False, ha', ?_, fun _ _ => id, fun b => by simp, fun _ => id⟩, (fun f hf => by cases hf), q1, q2, fun b hb => Nat.lt_of_lt_of_le (q3 b hb) hz, ?_, ?_⟩
  · rcases q4 b ((hu' b).2 (.inl hf)) with h | h
    · exact h
    · simp only at h; omega
  all_goals
    intro b hb
    rcases hn b hb with h | h
  · exact hi b h
  · exact fun hib => by have := q3 b hib; omega
  · exact q4 b ((hu' b).2 (.inl h))
  · exact .inr h
  · exact hi b h
  · exact fun hib => by have := q3 b hib; omega
section
variable {P : Program} {T : Tab} {K : Value → World → Prop} {w : World} {B : Base} {S : List Asn} {F : List Fact}
theorem box_rule [Mode] (H : Hp B S F w) {t : TypeId} {v : Value} (k : ∀ n w', Hp B (blk n v.cells.toList t :: S) F w' → K (.pointer (some ⟨n, 0, none⟩)) w') : BoxK P K w t v := by
  refine BoxK.of (w' := w.alloc (.cells v.cells t)) (v := .pointer (some ⟨w.heap.size, 0, none⟩)) rfl (k _ _ ?_)
  have := H.alloc (.cells v.cells t)
  simpa [blk] using this
theorem alloc_rule [Mode] (hT : T.Ok P) (H : Hp B S F w) {t : TypeId} {d : TypeDesc} {i : TypeInfo} {z : Value} (ht : T t = some ⟨d, i⟩) (hz : i.zero = some z) (k : ∀ n w', Hp B (blk n z.cells.toList t :: S) F w' → K (.pointer (some ⟨n, 0, none⟩)) w') : AllocK P K w t := by
  refine AllocK.of (w' := w.alloc (.cells z.cells t)) (v := .pointer (some ⟨w.heap.size, 0, none⟩)) ?_ (k _ _ ?_)
  · simp [Instr.alloc, zeroValue, run_info hT ht, hz, newVar, newRow]
  · have := H.alloc (.cells z.cells t)
    simpa [blk] using this
theorem zero_rule (hT : T.Ok P) {t : TypeId} {d : TypeDesc} {i : TypeInfo} {z : Value} (ht : T t = some ⟨d, i⟩) (hz : i.zero = some z) (w : World) : (zeroValue t).run P w = .ok z w := by
  simp [zeroValue, run_info hT ht, hz]

/-! ### 2. Loads and stores -/
/-- Cells in a row. -/
def CellsAt (w : World) (b o : Nat) (vs : List Value) : Prop := ∀ j v, vs[j]? = some v → w.cell? ⟨b, o + j, none⟩ = some v
theorem add_plain (g o j : Nat) : (⟨g, o, none⟩ : Addr).add j = ⟨g, o + j, none⟩ := by unfold Addr.add; split <;> simp_all
theorem LdV.one (hT : T.Ok P) {t : TypeId} {d : TD} {ad : Addr} {v : Value} (ht : T t = some d) (ha : isAggD d.desc = false) (hc : w.cell? ad = some v) : LdV P w t (.pointer (some ad)) v := by
  simp [LdV, Instr.loadAt, Instr.sureAddr, loadVar, run_agg hT ht, ha, hc]
theorem LdV.agg (hT : T.Ok P) {t : TypeId} {d : TD} {b o : Nat} {vs : List Value} (ht : T t = some d) (ha : isAggD d.desc = true) (hc : CellsAt w b o vs) (hl : vs.length = d.info.size) : LdV P w t (.pointer (some ⟨b, o, none⟩)) (.agg vs.toArray) := by
  have h := run_loadCells_list (P := P) w ⟨b, o, none⟩ vs fun j v hj => by rw [add_plain]; exact hc j v hj
  rw [hl] at h
  simp [LdV, Instr.loadAt, Instr.sureAddr, loadVar, run_agg hT ht, ha, run_szOf hT ht, h]
theorem LdV.load {t : TypeId} {x v : Value} (h : LdV P w t x v) (k : K v w) : LoadK P K w t x := LoadK.of h k
/-- The value of type t at a place of a list of cells. -/
def ldV (d : Option TD) (cs : List Value) (o : Nat) : Option Value := match d with
  | none => none
  | some d => bif isAggD d.desc then (bif Nat.ble (o + d.info.size) cs.length then some (.agg ((cs.drop o).take d.info.size).toArray) else none) else cs[o]?
theorem CellsAt.of_ld (hT : T.Ok P) {t : TypeId} {b o o' : Nat} {cs : List Value} {v : Value} (hc : CellsAt w b o' cs) (h : ldV (T t) cs o = some v) : LdV P w t (.pointer (some ⟨b, o' + o, none⟩)) v := by
  unfold ldV at h
  cases ht : T t with
  | none => rw [ht] at h; cases h
  | some d =>
    rw [ht] at h
    simp only at h
    cases ha : isAggD d.desc with
    | false =>
      rw [ha] at h
      exact LdV.one hT ht ha (hc o v h)
    | true =>
      rw [ha] at h
      simp only [cond_true] at h
      cases hb : Nat.ble (o + d.info.size) cs.length with
      | false => rw [hb] at h; cases h
      | true =>
        rw [hb] at h
        simp only [cond_true, Option.some.injEq] at h
        subst h
        have hb' := Nat.le_of_ble_eq_true hb
        refine LdV.agg hT ht ha (fun j u hj => ?_) (by simp; omega)
        have : cs[o + j]? = some u := by
          rw [List.getElem?_take] at hj
          split at hj
          · rwa [List.getElem?_drop] at hj
          · cases hj
        have := hc (o + j) u this
        rwa [← Nat.add_assoc] at this
theorem blk_cells {n : Nat} {cs : List Value} {t : TypeId} {fp : BS} (h : (blk n cs t).at_ w fp) : CellsAt w n 0 cs := by
  intro j v hj
  simp [World.cell?, h.2, hj]
theorem Hp.ld [Mode] (hT : T.Ok P) (H : Hp B S F w) {S' : List Asn} {n o : Nat} {cs : List Value} {t t0 : TypeId} {v : Value} [hp : TakeB S n cs t0 S'] (h : ldV (T t) cs o = some v) : LdV P w t (.pointer (some ⟨n, o, none⟩)) v := by
  obtain ⟨fa, ha⟩ := H.own (A := blk n cs t0) (hp := ⟨hp.perm⟩)
  have := (blk_cells ha).of_ld hT h
  rwa [Nat.zero_add] at this
theorem load_rule [Mode] (hT : T.Ok P) (H : Hp B S F w) {S' : List Asn} {n o : Nat} {cs : List Value} {t t0 : TypeId} {v : Value} [hp : TakeB S n cs t0 S'] (h : ldV (T t) cs o = some v) (k : K v w) : LoadK P K w t (.pointer (some ⟨n, o, none⟩)) :=
  LdV.load (H.ld hT h) k
/-- Cells written one behind the other. -/
def setL (cs : List Value) (o : Nat) : List Value → List Value
  | [] => cs
  | v :: vs => setL (cs.set o v) (o + 1) vs
theorem length_setL : ∀ (vs cs : List Value) (o : Nat), (setL cs o vs).length = cs.length
  | [], _, _ => rfl
  | v :: vs, cs, o => by rw [setL, length_setL vs]; simp
def World.setBlk (w : World) (n : Nat) (o : Obj) : World := { w with heap := w.heap.setIfInBounds n o }
def allOne : List Value → Bool
  | [] => true
  | v :: r => v.oneCell' && allOne r
theorem run_storeCells_blk {n : Nat} {t : TypeId} : ∀ (vs cs : List Value) (o i : Nat) (w : World), w.heap[n]? = some (.cells cs.toArray t (0, 0)) → o + i + vs.length ≤ cs.length → allOne vs = true →
    (storeCells ⟨n, o, none⟩ vs i).run P w = .ok () (World.setBlk w n (.cells (setL cs (o + i) vs).toArray t (0, 0)))
  | [], cs, o, i, w, h, _, _ => by
    have hn := (Array.getElem?_eq_some_iff.1 h).1
    have : World.setBlk w n (.cells cs.toArray t (0, 0)) = w := by
      unfold World.setBlk
      congr 1
      apply Array.ext_getElem?
      intro j
      by_cases hj : n = j
      · subst hj
        rw [h]
        simp [hn]
      · rw [Array.getElem?_setIfInBounds_ne hj]
    rw [setL, this]
    simp [storeCells]
  | v :: vs, cs, o, i, w, h, hl, h1 => by
    simp only [allOne, Bool.and_eq_true] at h1
    simp only [List.length_cons] at hl
    have hn := (Array.getElem?_eq_some_iff.1 h).1
    have hc : w.cell? ⟨n, o + i, none⟩ = some (cs[o + i]'(by omega)) := by simp [World.cell?, h, List.getElem?_eq_getElem (show o + i < cs.length by omega)]
    have hf : w.frozen? ⟨n, o + i, none⟩ = false := by simp [World.frozen?, h]
    have hst := run_store P w ⟨n, o + i, none⟩ v .plain h1.1
    rw [hc] at hst
    simp only [hf, Bool.false_eq_true, if_false] at hst
    have hw : (w.setCell ⟨n, o + i, none⟩ v).heap[n]? = some (.cells (cs.set (o + i) v).toArray t (0, 0)) := by
      simp [World.setCell, Array.getElem?_modify, h]
    have ih := run_storeCells_blk vs (cs.set (o + i) v) o (i + 1) (w.setCell ⟨n, o + i, none⟩ v) hw (by simp; omega) h1.2
    simp only [storeCells, add_plain, Sem.run_bind, hst, Result.andThen_ok, ih, setL]
    congr 1
    unfold World.setBlk World.setCell
    congr 1
    apply Array.ext_getElem?
    intro j
    by_cases hj : n = j
    · subst hj; simp [hn, Nat.add_assoc]
    · rw [Array.getElem?_setIfInBounds_ne hj, Array.getElem?_setIfInBounds_ne hj, Array.getElem?_modify, if_neg hj]
theorem heap_setBlk_ne (w : World) {n b : Nat} (o : Obj) (h : b ≠ n) : (World.setBlk w n o).heap[b]? = w.heap[b]? := Array.getElem?_setIfInBounds_ne (Ne.symm h)
theorem heap_setBlk_at (w : World) {n : Nat} {o o' : Obj} (h : w.heap[n]? = some o') : (World.setBlk w n o).heap[n]? = some o := by
  simp [World.setBlk, (Array.getElem?_eq_some_iff.1 h).1]
theorem Hp.setBlk [Mode] (H : Hp B S F w) {S' : List Asn} {n : Nat} {o o' : Obj} [hp : Take S (blkO n o) S'] : Hp B (blkO n o' :: S') F (World.setBlk w n o') := by
  refine H.step (A := blkO n o) rfl rfl rfl (by simp [World.setBlk]) fun fa ha => ⟨fun b _ hb => heap_setBlk_ne w o' fun e => hb ((ha.1 b).2 e), fa, ⟨ha.1, heap_setBlk_at w ha.2⟩, fun b hb => .inl hb⟩
theorem store_rule [Mode] (hT : T.Ok P) (H : Hp B S F w) {S' : List Asn} {n o : Nat} {cs : List Value} {t t0 : TypeId} {d : TD} {x : Value} [hp : TakeB S n cs t0 S'] (ht : T t = some d) (hs : Nat.beq x.cells.toList.length d.info.size = true)
    (hl : Nat.ble (o + x.cells.toList.length) cs.length = true) (h1 : allOne x.cells.toList = true)
    (k : ∀ w', Hp B (blk n (setL cs o x.cells.toList) t0 :: S') F w' → K undef w') : StoreK P K w t (.pointer (some ⟨n, o, none⟩)) x := by
  have hp' : Take S (blk n cs t0) S' := ⟨hp.perm⟩
  obtain ⟨fa, ha⟩ := H.own (A := blk n cs t0)
  have hr := run_storeCells_blk (P := P) x.cells.toList cs o 0 w ha.2 (by have := Nat.le_of_ble_eq_true hl; omega) h1
  refine StoreK.of (w' := World.setBlk w n (.cells (setL cs o x.cells.toList).toArray t0 (0, 0))) ?_ (k _ (H.setBlk (o := .cells cs.toArray t0 (0, 0))))
  have hs' : x.cells.size = d.info.size := by have := Nat.eq_of_beq_eq_true hs; simpa using this
  simp only [Instr.storeAt, Instr.sureAddr, storeVar, Sem.run_bind, Sem.run_pure, Result.andThen_ok, run_szOf hT ht, hs', ne_eq, not_true_eq_false, if_false]
  simpa using hr
end
end Go.Wk
/- Slices that are read, pointers to their elements; rows of the call's own. -/
set_option linter.unusedVariables false
set_option linter.unusedSimpArgs false
namespace Go.Wk

/-! ### 1. How data lie in cells -/
structure Rp (α : Type) where
  sz : Nat
  π : Type
  cells : α → π → List Value
  ok : α → π → Prop
  facts : α → π → List Fact
  len : ∀ x p, (cells x p).length = sz
/-- Whole numbers of a kind, within its range. -/
def kLo : IntKind → Int
  | .i8 => -128 | .i16 => -32768 | .i32 => -2147483648 | .i64 => -9223372036854775808 | .u8 => 0 | .u16 => 0 | .u32 => 0 | .u64 => 0
def kHi : IntKind → Int
  | .i8 => 127 | .i16 => 32767 | .i32 => 2147483647 | .i64 => 9223372036854775807 | .u8 => 255 | .u16 => 65535 | .u32 => 4294967295 | .u64 => 18446744073709551615
def inK (k : IntKind) (n : Int) : Prop := kLo k ≤ n ∧ n ≤ kHi k
theorem wrap_id {k : IntKind} {n : Int} (h : inK k n) : k.wrap n = n := by
  obtain ⟨h1, h2⟩ := h
  cases k <;> simp only [kLo, kHi] at h1 h2 <;> simp [IntKind.wrap, IntKind.signed, IntKind.bits] <;> omega
theorem w64 {n : Int} (h1 : -9223372036854775808 ≤ n) (h2 : n ≤ 9223372036854775807) : IntKind.i64.wrap n = n := wrap_id ⟨h1, h2⟩
section
variable {α : Type} (r : Rp α)
def Rp.At (w : World) (I : BS) (b o : Nat) (x : α) : Prop := ∃ p, r.ok x p ∧ CellsAt w b o (r.cells x p) ∧ All (r.facts x p) w I
theorem CellsAt.keep {w w' : World} {b o : Nat} {vs : List Value} (h : CellsAt w b o vs) (hk : w'.heap[b]? = w.heap[b]?) : CellsAt w' b o vs := fun j v hj => by
  rw [← h j v hj]; simp only [World.cell?, hk]
theorem All.keep {F : List Fact} {w w' : World} {I I' : BS} (h : All F w I) (hI : ∀ b, I b → I' b) (hw : ∀ b, I b → w'.heap[b]? = w.heap[b]?) : All F w' I' := fun f hf => f.mono (h f hf) hI hw
variable {r} in
theorem Rp.At.keep {w w' : World} {I I' : BS} {b o : Nat} {x : α} (h : r.At w I b o x) (hb : I b) (hI : ∀ b, I b → I' b) (hw : ∀ b, I b → w'.heap[b]? = w.heap[b]?) : r.At w' I' b o x :=
  let ⟨p, h1, h2, h3⟩ := h
  ⟨p, h1, h2.keep (hw b hb), h3.keep hI hw⟩
/-- An element lies at an address. -/
def Ptr (b o : Nat) (x : α) : Fact := ⟨fun w I => I b ∧ r.At w I b o x, fun ⟨h1, h2⟩ hI hw => ⟨hI _ h1, h2.keep h1 hI hw⟩⟩
/-- A slice reads asx a list. -/
def Sl (v : Value) (xs : List α) : Fact where
  holds w I := ∃ A c, v = .slice A xs.length c ∧ xs.length ≤ c ∧ c ≤ 9223372036854775807 ∧ (A = none → c = 0) ∧ ∀ (i : Nat) x, xs[i]? = some x → ∃ b o, A = some ⟨b, o, none⟩ ∧ I b ∧ r.At w I b (o + i * r.sz) x
  mono := fun ⟨A, c, h1, h2, h3, h0, h4⟩ hI hw => ⟨A, c, h1, h2, h3, h0, fun i x hx => let ⟨b, o, e, hb, ha⟩ := h4 i x hx; ⟨b, o, e, hI _ hb, ha.keep hb hI hw⟩⟩
/-- A list of cells reads asx a list. -/
def Cl (cs : List Value) (xs : List α) : Fact where
  holds w I := cs.length = xs.length * r.sz ∧ ∀ (i : Nat) x, xs[i]? = some x → ∃ p, r.ok x p ∧ (cs.drop (i * r.sz)).take r.sz = r.cells x p ∧ All (r.facts x p) w I
  mono := fun ⟨h1, h2⟩ hI hw => ⟨h1, fun i x hx => let ⟨p, a, b, c⟩ := h2 i x hx; ⟨p, a, b, c.keep hI hw⟩⟩
end
class InSl (F : List Fact) (A : Option Addr) (n c : Nat) {α : outParam Type} (r : outParam (Rp α)) (xs : outParam (List α)) : Prop where
  mem : Sl r (.slice A n c) xs ∈ F
instance (priority := 2000) InSl.here {α : Type} (r : Rp α) (A : Option Addr) (n c : Nat) (xs : List α) (F : List Fact) : InSl (Sl r (.slice A n c) xs :: F) A n c r xs := ⟨List.mem_cons_self⟩
instance (priority := 1000) InSl.there {α : Type} (r : Rp α) (A : Option Addr) (n c : Nat) (xs : List α) (f : Fact) (F : List Fact) [h : InSl F A n c r xs] : InSl (f :: F) A n c r xs := ⟨List.mem_cons_of_mem _ h.mem⟩
class InPtr (F : List Fact) (b o : Nat) {α : outParam Type} (r : outParam (Rp α)) (x : outParam α) : Prop where
  mem : Ptr r b o x ∈ F
instance (priority := 2000) InPtr.here {α : Type} (r : Rp α) (b o : Nat) (x : α) (F : List Fact) : InPtr (Ptr r b o x :: F) b o r x := ⟨List.mem_cons_self⟩
instance (priority := 1000) InPtr.there {α : Type} (r : Rp α) (b o : Nat) (x : α) (f : Fact) (F : List Fact) [h : InPtr F b o r x] : InPtr (f :: F) b o r x := ⟨List.mem_cons_of_mem _ h.mem⟩
/-- The shape of a slice that reads. -/
theorem Hp.sl [Mode] {B : Base} {S : List Asn} {F : List Fact} {w : World} {α : Type} {r : Rp α} {v : Value} {xs : List α} (H : Hp B S F w) [hp : InF F (Sl r v xs)] : ∃ A c, v = .slice A xs.length c ∧ xs.length ≤ c ∧ c ≤ 9223372036854775807 := by
  obtain ⟨I, A, c, h1, h2, h3, _, _⟩ := H.fact (f := Sl r v xs)
  exact ⟨A, c, h1, h2, h3⟩
theorem Hp.sll [Mode] {B : Base} {S : List Asn} {F : List Fact} {w : World} {α : Type} {r : Rp α} {A : Option Addr} {n c : Nat} {xs : List α} (H : Hp B S F w) [hp : InSl F A n c r xs] : n = xs.length ∧ xs.length ≤ c ∧ c ≤ 9223372036854775807 := by
  have hp' : InF F (Sl r (.slice A n c) xs) := ⟨hp.mem⟩
  obtain ⟨A, c, h1, h2, h3⟩ := H.sl (r := r) (v := .slice A n c) (xs := xs)
  injection h1 with e1 e2 e3
  subst e2 e3
  exact ⟨rfl, h2, h3⟩
section
variable {P : Program} {T : Tab} {K : Value → World → Prop} {w : World} {B : Base} {S : List Asn} {F : List Fact}
theorem idx_rule [Mode] (hT : T.Ok P) (H : Hp B S F w) {α : Type} {r : Rp α} {A : Option Addr} {n c : Nat} {xs : List α} [hp : InSl F A n c r xs] {t e : TypeId} {it : TypeInfo} {de : TD} {kd : IntKind} {j : Int}
    (ht : T t = some ⟨.slice e, it⟩) (he : T e = some de) (hz : de.info.size = r.sz) (h0 : 0 ≤ j) (h1 : j < n)
    (k : ∀ b o x, xs[j.toNat]? = some x → Hp B S (Ptr r b o x :: F) w → K (.pointer (some ⟨b, o, none⟩)) w) : IdxAddrK P K w t (.slice A n c) (.int kd j) := by
  obtain ⟨h2, h3, h4, h5, h6, I, fp, hs, ha, q⟩ := H
  obtain ⟨A', c', e1, q1, q2, _, q3⟩ := ha _ hp.mem
  injection e1 with e1 e2 e3
  subst e1 e2 e3
  obtain ⟨x, hx⟩ : ∃ x, xs[j.toNat]? = some x := ⟨xs[j.toNat]'(by omega), List.getElem?_eq_getElem _⟩
  obtain ⟨b, o, rfl, hb, hat⟩ := q3 _ x hx
  refine IdxAddrK.of (v := .pointer (some ⟨b, o + j.toNat * r.sz, none⟩)) (w' := w) ?_ (k b _ x hx ⟨h2, h3, h4, h5, h6, I, fp, hs, ?_, q⟩)
  · simp [Instr.indexAt, asIntOf, run_und hT ht, h0, h1, run_szOf hT he, hz, add_plain]
  · intro f hf
    rcases List.mem_cons.1 hf with rfl | hf
    · exact ⟨hb, hat⟩
    · exact ha f hf
theorem ldp_rule [Mode] (hT : T.Ok P) (H : Hp B S F w) {α : Type} {r : Rp α} {b o : Nat} {x : α} [hp : InPtr F b o r x] {t : TypeId} {d : TD} (ht : T t = some d) (ha : isAggD d.desc = true) (hz : d.info.size = r.sz)
    {N : r.π → List Fact} [hn : ∀ p, AppL (r.facts x p) F (N p)] (k : ∀ p, r.ok x p → Hp B S (N p) w → K (.agg (r.cells x p).toArray) w) : LoadK P K w t (.pointer (some ⟨b, o, none⟩)) := by
  obtain ⟨h2, h3, h4, h5, h6, I, fp, hs, hall, q⟩ := H
  obtain ⟨hb, p, hok, hc, hf⟩ := hall _ hp.mem
  refine LdV.load (LdV.agg hT ht ha hc (by rw [r.len, hz])) (k p hok ⟨h2, h3, h4, h5, h6, I, fp, hs, fun f hf' => ?_, q⟩)
  rw [(hn p).eq] at hf'
  rcases List.mem_append.1 hf' with h | h
  · exact hf f h
  · exact hall f h
/-! ### 2. Rows of the call's own -/
def row (e sz : Nat) (v : Value) (n : Nat) (cs : List Value) : Asn where
  at_ w fp := w.ownsRow 0 e sz v n cs ∧ ∀ b, fp b ↔ v.ownBlock = some b
  loc := by
    rintro w w' fp ⟨⟨h1, h2⟩, h3⟩ hk
    refine ⟨⟨h1, ?_⟩, h3⟩
    rcases h2 with h2 | ⟨g, cap, cur, rfl, hb, hh, r⟩
    · exact .inl h2
    · exact .inr ⟨g, cap, cur, rfl, hb, by rw [hk g ((h3 g).2 (by simp [Value.ownBlock]))]; exact hh, r⟩
  lt := fun ⟨h1, h2⟩ hb => (h1.lt _ ((h2 _).1 hb)).2
class TakeR (S : List Asn) (v : Value) (e sz n : outParam Nat) (cs : outParam (List Value)) (S' : outParam (List Asn)) : Prop where
  perm : S.Perm (row e sz v n cs :: S')
instance (priority := 2000) TakeR.here (v : Value) (e sz n : Nat) (cs : List Value) (S : List Asn) : TakeR (row e sz v n cs :: S) v e sz n cs S := ⟨.refl _⟩
instance (priority := 1000) TakeR.there (v : Value) (e sz n : Nat) (cs : List Value) (b : Asn) (S S' : List Asn) [h : TakeR S v e sz n cs S'] : TakeR (b :: S) v e sz n cs (b :: S') := ⟨(h.perm.cons b).trans (.swap _ b S')⟩
theorem nil_row {w : World} {e sz : Nat} : (row e sz (.slice none 0 0) 0 []).at_ w fun _ => False := ⟨⟨by simp, .inl ⟨rfl, rfl⟩⟩, fun b => by simp [Value.ownBlock]⟩
/-- A nil slice is a row with nothing in it. -/
theorem Hp.nil [Mode] (H : Hp B S F w) (e sz : Nat) : Hp B (row e sz (.slice none 0 0) 0 [] :: S) F w := by
  obtain ⟨h2, h3, h4, h5, h6, I, fp, hs, q⟩ := H
  exact ⟨h2, h3, h4, h5, h6, I, fp, ⟨_, fp, nil_row, fun _ h => h.elim, fun _ h => h.elim, fun b => by simp, hs⟩, q⟩
theorem row_cells {w : World} {e sz n : Nat} {v : Value} {cs : List Value} {fp : BS} (h : (row e sz v n cs).at_ w fp) {b o m c : Nat} (hv : v = .slice (some ⟨b, o, none⟩) m c) : o = 0 ∧ m = n ∧ CellsAt w b 0 cs ∧ n ≤ c ∧ fp b := by
  subst hv
  obtain ⟨h1, h2⟩ := h
  rcases h1.2 with ⟨h, _⟩ | ⟨g, cap, cur, he, _, hh, hn, hm, hz, hc⟩
  · cases h
  · injection he with e1 e2 e3
    injection e1 with e1
    injection e1 with e1 e4
    subst e1 e2 e3 e4
    refine ⟨rfl, rfl, fun j u hj => ?_, hn, (h2 b).2 (by simp [Value.ownBlock])⟩
    have := h1.cells (g := b) (by simp [Value.ownBlock]) j u hj
    rwa [add_plain] at this
theorem row_shape {w : World} {e sz n : Nat} {v : Value} {cs : List Value} {fp : BS} (h : (row e sz v n cs).at_ w fp) : ∃ A c, v = .slice A n c ∧ n ≤ c ∧ c ≤ maxLen ∧ (n ≠ 0 → ∃ b, A = some ⟨b, 0, none⟩) := by
  rcases h.1.2 with ⟨rfl, rfl⟩ | ⟨g, cap, cur, rfl, _, hh, hn, hm, _⟩
  · exact ⟨none, 0, rfl, Nat.le_refl _, by decide, fun h => absurd rfl h⟩
  · exact ⟨_, cap, rfl, hn, hm, fun _ => ⟨g, rfl⟩⟩
/-- An append looks at the tape once at most. -/
theorem append_drawn {P : Program} {w w' : World} {base : Nat} {t ty e : TypeId} {i : TypeInfo} {z : Value} (ht : P.underlying t = some (.slice e)) (hi : P.info? e = some i) (hz : i.zero = some z) (hsz : 0 < i.size)
    {v : Value} {n : Nat} {xs : List Value} (hown : w.ownsRow base e i.size v n xs) {a : Addr} {m c : Nat} {news : List Value} (hl : news.length = m * i.size) (hnews : ∀ j u, news[j]? = some u → w.cell? (a.add j) = some u) (h1 : ∀ u ∈ news, u.oneCell' = true)
    (h63 : n + m ≤ maxLen) (hbytes : (n + m) * i.bytes ≤ 140737488355328) {v' : Value} (hr : (Builtin.append_ #[t, t] ty #[v, .slice (some a) m c]).run P w = .ok v' w') : w.drawn ≤ w'.drawn := by
  have hsmall : n + m ≤ 9223372036854775807 := by simp only [maxLen] at h63; omega
  rcases hown.2 with ⟨rfl, rfl⟩ | ⟨g, cap, cur, rfl, hbg, hg, hnc, hcm, hcs, htake⟩
  · by_cases hm : m = 0
    · subst hm
      have hn : news = [] := List.eq_nil_of_length_eq_zero (by simpa using hl)
      subst hn
      have e2 : (Builtin.append_ #[t, t] ty #[.slice none 0 0, .slice (some a) 0 c]).run P w = .ok (.slice none 0 0) w := by
        simp [Builtin.append_, run_underlying ht, sizeOf, typeInfo, hi, Builtin.lenOf, Builtin.firstCells, loadCells, loadCellsFrom]
      rw [e2] at hr
      injection hr with _ hr
      rw [← hr]
      exact Nat.le_refl _
    · rw [run_append_nil (P := P) w t ty e i z ht hi hz a m c news hl hnews (by omega) (by omega) (by have hb := hbytes; simp only [Nat.zero_add] at hb; omega)] at hr
      injection hr with _ hr
      rw [← hr]
      exact Nat.le_succ _
  · by_cases hroom : n + m ≤ cap
    · have hfit : n * i.size + news.length ≤ cur.size := by rw [hl, hcs, ← Nat.add_mul]; exact Nat.mul_le_mul_right _ hroom
      rw [run_append_room (P := P) w t ty e i ht hi g n cap cur hg a m c news hl hnews h1 hroom hfit] at hr
      injection hr with _ hr
      rw [← hr]
      exact Nat.le_refl _
    · have holds : ∀ j u, xs[j]? = some u → w.cell? ((⟨g, 0, none⟩ : Addr).add j) = some u := hown.cells (g := g) rfl
      rw [run_append_grow (P := P) w t ty e i z ht hi hz ⟨g, 0, none⟩ n cap xs hown.1 holds a m c news hl hnews (by omega) (by omega) (growslice_fits (by omega) hbytes)] at hr
      injection hr with _ hr
      rw [← hr]
      exact Nat.le_succ _
theorem append_own_dr {P : Program} (w : World) (base : Nat) (t ty e : TypeId) (i : TypeInfo) (z : Value) (size bytes : Nat) (ht : P.underlying t = some (.slice e)) (hi : P.info? e = some i) (hz : i.zero = some z)
    (hsize : i.size = size) (hby : i.bytes = bytes) (hzs : z.cells.size = size) (hsz : 0 < size)
    (v : Value) (n : Nat) (xs : List Value) (hown : w.ownsRow base e size v n xs)
    (a : Addr) (m c : Nat) (news : List Value) (hl : news.length = m * size) (hnews : ∀ j u, news[j]? = some u → w.cell? (a.add j) = some u) (h1 : ∀ u ∈ news, u.oneCell' = true)
    (h63 : n + m ≤ maxLen) (hbytes : (n + m) * bytes ≤ 140737488355328) (hbase : base ≤ w.heap.size) :
    ∃ v' w', (Builtin.append_ #[t, t] ty #[v, .slice (some a) m c]).run P w = .ok v' w' ∧ w'.ownsRow base e size v' (n + m) (xs ++ news) ∧ w.grownBy w' v.ownBlock ∧
      (v' = .slice none 0 0 ↔ v = .slice none 0 0 ∧ m = 0) ∧ (v'.ownBlock = v.ownBlock ∨ v'.ownBlock = some w.heap.size) ∧ w.drawn ≤ w'.drawn := by
  obtain ⟨v', w', h2, h3, h4, h5, h6⟩ := run_append_own_at (P := P) w base t ty e i z size bytes ht hi hz hsize hby hzs hsz v n xs hown a m c news hl hnews h1 h63 hbytes hbase
  subst hsize hby
  exact ⟨v', w', h2, h3, h4, h5, h6, append_drawn ht hi hz hsz hown hl hnews h1 h63 hbytes h2⟩
/-- **append(v, x..)**: v a row of one's own, x.. a block of one's own. -/
theorem append_rule [Mode] (hT : T.Ok P) (H : Hp B S F w) {e sz n m c b : Nat} {v : Value} {cs news : List Value} {S1 S2 : List Asn} {t t0 ty : TypeId} {it : TypeInfo} {de : TD} {z : Value} [h1 : TakeR S v e sz n cs S1] [h2 : TakeB S1 b news t0 S2]
    {cst : List Bool} (ht : T t = some ⟨.slice e, it⟩) (he : T e = some de) (hz : de.info.zero = some z) (hzs : Nat.beq z.cells.size sz = true) (hsz : Nat.beq de.info.size sz = true) (hp : Nat.ble 1 sz = true) (hl : Nat.beq news.length (m * sz) = true) (ho : allOne news = true)
    (hb : (n + m) * de.info.bytes ≤ 140737488355328) (hm : n + m ≤ 140737488355328)
    (k : ∀ A c w', Hp B (row e sz (.slice A (n + m) c) (n + m) (cs ++ news) :: S2) F w' → K (.slice A (n + m) c) w') : BuiltinK P K w .append [t, t] ty cst [v, .slice (some ⟨b, 0, none⟩) m c] := by
  have H1 := H.perm h1.perm
  obtain ⟨fb, hfb⟩ := Hp.own (A := blk b news t0) (S' := row e sz v n cs :: S2) (hp := ⟨(h2.perm.cons _).trans (.swap _ _ _)⟩) H1
  obtain ⟨fa, hfa⟩ := Hp.own (A := row e sz v n cs) (S' := S1) (hp := ⟨.refl _⟩) H1
  have ho' : ∀ u ∈ news, u.oneCell' = true := by
    intro u hu
    clear k hfb H1 h2 H h1 hl
    induction news with
    | nil => cases hu
    | cons a r ih =>
      simp only [allOne, Bool.and_eq_true] at ho
      rcases List.mem_cons.1 hu with rfl | hu
      · exact ho.1
      · exact ih ho.2 hu
  have hsz' := Nat.eq_of_beq_eq_true hsz
  obtain ⟨v', w', hr, hown, hg, _, hat, hdr⟩ := append_own_dr (P := P) w 0 t ty e de.info z sz de.info.bytes (hT t _ ht).1 (hT e _ he).2 hz hsz' rfl (Nat.eq_of_beq_eq_true hzs) (Nat.le_of_ble_eq_true hp) v n cs hfa.1 ⟨b, 0, none⟩ m c news (Nat.eq_of_beq_eq_true hl)
    (fun j u hj => by rw [add_plain]; exact blk_cells hfb j u hj) ho' (by unfold maxLen; omega) hb (Nat.zero_le _)
  have H2 : Hp B (row e sz v' (n + m) (cs ++ news) :: S1) F w' := by
    refine Hp.step (A := row e sz v n cs) (hp := ⟨.refl _⟩) H1 hg.os hg.tape hg.output hg.size fun fa ha => ⟨fun k hk hn => hg.block k hk fun e => hn ((ha.2 k).2 e.symm), fun k => v'.ownBlock = some k, ⟨hown, fun _ => Iff.rfl⟩, fun k hk => ?_⟩
    rcases hat with h | h
    · exact .inl ((ha.2 k).2 (h ▸ hk))
    · rw [h] at hk
      injection hk with hk
      subst hk
      exact .inr (Nat.le_refl _)
  obtain ⟨A, c', rfl, _⟩ := row_shape (w := w') (fp := fun k => v'.ownBlock = some k) ⟨hown, fun _ => Iff.rfl⟩
  refine BuiltinK.of (v := .slice A (n + m) c') (w' := w') ?_ (k A c' w' ?_)
  · simp only [builtin]
    rw [Sem.run_bind]
    have hr' : (Builtin.append_ [t, t].toArray ty [v, .slice (some ⟨b, 0, none⟩) m c].toArray).run P w = .ok (.slice A (n + m) c') w' := hr
    rw [hr']; rfl
  · exact (H2.perm ((h2.perm.cons _).trans (.swap _ _ _))).drop
/-- A row that nobody appends to any more reads asx a list. -/
theorem Hp.frzRow [Mode] (H : Hp B S F w) {S' : List Asn} {e sz n : Nat} {v : Value} {cs : List Value} {α : Type} (r : Rp α) {xs : List α} [h1 : TakeR S v e sz n cs S'] [h2 : InF F (Cl r cs xs)] (hM : ∀ b, ¬ B.M b) (hsz : sz = r.sz) (hp : 0 < sz) : Hp B S' (Sl r v xs :: F) w := by
  refine ((H.perm h1.perm).freeze hM).facts fun I ha f hf => ?_
  rcases List.mem_cons.1 hf with rfl | hf
  · obtain ⟨fp, hrow, hi⟩ := ha _ List.mem_cons_self
    obtain ⟨q1, q2⟩ := ha _ (List.mem_cons_of_mem _ h2.mem)
    obtain ⟨A, c, rfl, hn, hcm, hA⟩ := row_shape hrow
    have hml : maxLen = 9223372036854775807 := rfl
    have hl := hrow.1.1
    subst hsz
    have hnx : n = xs.length := Nat.eq_of_mul_eq_mul_right hp (by rw [← hl, q1])
    refine ⟨A, c, by rw [← hnx], by omega, by omega, fun hA0 => ?_, fun i x hx => ?_⟩
    · subst hA0
      rcases hrow.1.2 with ⟨h, _⟩ | ⟨g, cap, cur, h, _⟩
      · injection h
      · injection h with h; cases h
    have hix : i < xs.length := (List.getElem?_eq_some_iff.1 hx).1
    obtain ⟨b, rfl⟩ := hA (by omega)
    obtain ⟨_, _, hcells, _, hfb⟩ := row_cells hrow rfl
    obtain ⟨p, ok, hcx, hfx⟩ := q2 i x hx
    refine ⟨b, 0, rfl, hi b hfb, p, ok, fun j u hj => ?_, hfx⟩
    rw [← hcx, List.getElem?_take] at hj
    split at hj
    · rw [List.getElem?_drop] at hj
      have := hcells _ _ hj
      rwa [Nat.zero_add] at this ⊢
    · cases hj
  · exact ha f (List.mem_cons_of_mem _ hf)

/-! ### 3. Literals; indices into one's own -/
/-- The parts of a literal, one behind the other: their cells. -/
def seqParts (sz : Nat) : Nat → List (Nat × Value) → Option (List Value)
  | _, [] => some []
  | k, (i, v) :: r => bif Nat.beq i k && Nat.beq v.cells.toList.length sz then (seqParts sz (k + 1) r).map (v.cells.toList ++ ·) else none
theorem foldl_set (vs : List Value) : ∀ (k : Nat) (pre mid post : List Value) (j0 : Nat), mid.length = vs.length → pre.length = k + j0 →
    ((vs.zipIdx j0).foldl (fun (cs : Array Value) (c, j) => cs.setIfInBounds (k + j) c) (pre ++ mid ++ post).toArray) = (pre ++ vs ++ post).toArray := by
  induction vs with
  | nil =>
    intro k pre mid post j0 h _
    obtain rfl := List.length_eq_zero_iff.1 h
    rfl
  | cons v vs ih =>
    intro k pre mid post j0 h hp
    obtain ⟨m, mid, rfl⟩ : ∃ m r, mid = m :: r := by cases mid with
      | nil => cases h
      | cons m r => exact ⟨m, r, rfl⟩
    simp only [List.zipIdx_cons, List.foldl_cons]
    have e : (pre ++ m :: mid ++ post).toArray.setIfInBounds (k + j0) v = ((pre ++ [v]) ++ mid ++ post).toArray := by
      apply Array.ext'
      simp only [Array.toList_setIfInBounds, List.append_assoc]
      rw [← hp, List.set_append_right _ _ (Nat.le_refl _)]
      simp
    rw [e, ih k (pre ++ [v]) mid post (j0 + 1) (by simpa using h) (by simp; omega)]
    simp
theorem fill_seq {sz : Nat} : ∀ (parts : List (Nat × Value)) (k : Nat) (pre rest cs : List Value), seqParts sz k parts = some cs → pre.length = k * sz → rest.length = parts.length * sz →
    Instr.fill (fun i => some (i * sz, sz)) (pre ++ rest).toArray parts = some (pre ++ cs).toArray
  | [], k, pre, rest, cs, h, hp, hr => by
    simp only [seqParts, Option.some.injEq] at h
    subst h
    obtain rfl := List.length_eq_zero_iff.1 (by simpa using hr)
    rfl
  | (i, v) :: r, k, pre, rest, cs, h, hp, hr => by
    simp only [seqParts] at h
    cases hb : Nat.beq i k && Nat.beq v.cells.toList.length sz with
    | false => rw [hb] at h; cases h
    | true =>
      rw [hb] at h
      simp only [cond_true] at h
      simp only [Bool.and_eq_true] at hb
      obtain rfl := Nat.eq_of_beq_eq_true hb.1
      have hv := Nat.eq_of_beq_eq_true hb.2
      obtain ⟨cs', hcs, rfl⟩ := Option.map_eq_some_iff.1 h
      have hr' : rest.length = sz + r.length * sz := by simp only [List.length_cons, Nat.add_mul, Nat.one_mul] at hr; omega
      have hv' : v.cells.size = sz := by simpa using hv
      have e0 : (v.cells.size ≠ sz || decide (i * sz + v.cells.size > (pre ++ rest).toArray.size)) = false := by simp [hv', hp]; omega
      simp only [Instr.fill]
      rw [if_neg (by simpa using e0)]
      have e1 : v.cells.zipIdx.foldl (fun (cs : Array Value) (c, j) => cs.setIfInBounds (i * sz + j) c) (pre ++ rest).toArray = ((pre ++ v.cells.toList) ++ rest.drop sz).toArray := by
        have h3 := foldl_set v.cells.toList (i * sz) pre (rest.take sz) (rest.drop sz) 0 (by rw [List.length_take, hv]; omega) (by simpa using hp)
        rw [List.append_assoc, List.take_append_drop] at h3
        rw [← h3, ← Array.foldl_toList]
        simp
      have ih := fill_seq r (i + 1) (pre ++ v.cells.toList) (rest.drop sz) cs' hcs (by rw [List.length_append, hp, hv, Nat.add_mul, Nat.one_mul]) (by rw [List.length_drop]; omega)
      rw [List.append_assoc] at ih
      rw [List.append_assoc] at e1
      rw [e1, ih]
      simp
theorem run_buildSlice (hT : T.Ok P) {t e : TypeId} {it : TypeInfo} {de : TD} {z : Value} {n : Nat} {parts : List (Nat × Value)} {cs : List Value} (ht : T t = some ⟨.slice e, it⟩) (he : T e = some de) (hz : de.info.zero = some z)
    (hs : seqParts de.info.size 0 parts = some cs) (hn : Nat.beq parts.length n = true) (hb : Nat.ble (n * de.info.size) 16777216 = true) (w : World) : (Instr.buildSlice t n parts.toArray).run P w = .ok (.slice (some ⟨w.heap.size, 0, none⟩) n n) (w.alloc (.cells cs.toArray e)) := by
  have hn' := Nat.eq_of_beq_eq_true hn
  have hb' := Nat.le_of_ble_eq_true hb
  have hfill : ∀ zs : Array Value, zs.size = n * de.info.size → Instr.fill (fun i => some (i * de.info.size, de.info.size)) zs parts = some cs.toArray := fun zs hzs => by
    have := fill_seq parts 0 [] zs.toList cs hs (by simp) (by rw [Array.length_toList, hzs, hn'])
    simpa using this
  have h16 : ¬ (n * de.info.size > 2 ^ 24) := by omega
  simp only [Instr.buildSlice, Sem.run_bind, run_und hT ht, Result.andThen_ok, run_szOf hT he, h16, if_false, Sem.run_ite]
  by_cases h0 : n * de.info.size = 0
  · simp only [h0, if_true, Sem.run_pure, Result.andThen_ok]
    rw [hfill _ (by simp [h0])]
    simp [newRow]
  · simp only [h0, if_false, Sem.run_bind, zero_rule hT he hz, Result.andThen_ok, Sem.run_pure]
    rw [hfill _ (by simp)]
    simp [newRow]
theorem buildSlice_rule [Mode] (hT : T.Ok P) (H : Hp B S F w) {t e : TypeId} {it : TypeInfo} {de : TD} {z : Value} {n : Nat} {parts : List (Nat × Value)} {cs : List Value} (ht : T t = some ⟨.slice e, it⟩) (he : T e = some de) (hz : de.info.zero = some z)
    (hs : seqParts de.info.size 0 parts = some cs) (hn : Nat.beq parts.length n = true) (hb : Nat.ble (n * de.info.size) 16777216 = true) (k : ∀ g w', Hp B (blk g cs e :: S) F w' → K (.slice (some ⟨g, 0, none⟩) n n) w') : BuildSliceK P K w t n parts :=
  BuildSliceK.of (run_buildSlice hT ht he hz hs hn hb w) (k _ _ (H.alloc _))
theorem idx_own (hT : T.Ok P) {t e : TypeId} {it : TypeInfo} {de : TD} {b o n c : Nat} {kd : IntKind} {j : Int} (ht : T t = some ⟨.slice e, it⟩) (he : T e = some de) (h0 : 0 ≤ j) (h1 : j < n)
    (k : K (.pointer (some ⟨b, o + j.toNat * de.info.size, none⟩)) w) : IdxAddrK P K w t (.slice (some ⟨b, o, none⟩) n c) (.int kd j) := by
  refine IdxAddrK.of ?_ k
  simp [Instr.indexAt, asIntOf, run_und hT ht, h0, h1, run_szOf hT he, add_plain]
end
end Go.Wk
