/- A range over a function: yield's call, its contract out of a round's walk, the statement. -/
import Derived.Test.YtfemfomgmopibaaGreatDoorK7
import Derived.RangeFuncRecord
set_option linter.unusedVariables false
namespace Go.Wk
theorem CallK_yield {P : Program} {K : Value → World → Prop} {w : World} {l : Nat} {r : Loop} {args : List Value} (h : w.heap[l]? = some (.loop r)) (hs : args.length = r.params.size) {tm : Array Value} (ht : (r.params.zip args.toArray).foldl (fun tmps (t, a) => tmps.setIfInBounds t a) r.tmps = tm)
    (k : RoundIn Fence.wide 0 P l r.fn tm r.assign r.body w fun e w'' => ∃ v, e = .returned v ∧ K v w'') : CallK P K w (.func (.yield l) #[] #[]) args := by
  refine ⟨?_⟩
  unfold NK
  have hy := run_yield (P := P) (w := w) (l := l) (r := r) (args := args.toArray) h (by simpa using hs)
  have e : (do let d ← Deferred.ofValue (.func (.yield l) #[] #[]) args.toArray; invoke d.target d.args : Sem Next) = Instr.yield l args.toArray := by
    simp [Deferred.ofValue, invoke]
  rw [ht] at hy
  rw [e, hy]
  exact k
/-- Yield's contract: J says what is kept between rounds, behind which elements. -/
def YieldC (P : Program) (l N : Nat) {α : Type} (enc : α → Value) (J : List α → Asn) : Prop :=
  ∀ (pre : List α) (x : α) (w : World) (M I : BS) (K : Value → World → Prop), pre.length < N → Hp ⟨w, M, I⟩ [J pre] [] w → (∀ w', Hp ⟨w, M, I⟩ [J (pre ++ [x])] [] w' → K (.bool true) w') → CallK P K w (.func (.yield l) #[] #[]) [enc x]
theorem yield_rule {P : Program} {l N : Nat} {α : Type} {enc : α → Value} {J : List α → Asn} {B : Base} {S S' : List Asn} {F : List Fact} {w : World} {K : Value → World → Prop} (hY : YieldC P l N enc J) (H : Hp B S F w) (pre : List α) (x : α) [hp : Take S (J pre) S'] (hN : pre.length < N)
    (k : ∀ w', Hp B (J (pre ++ [x]) :: S') F w' → K (.bool true) w') : CallK P K w (.func (.yield l) #[] #[]) [enc x] := by
  obtain ⟨M, I, hm, _, hk⟩ := Hp.call (A := [J pre]) (S := S') (G := []) (H.perm hp.perm) fun I ha f hf => by cases hf
  exact hY pre x w M I K hN hm fun w' h => k w' (hk [J (pre ++ [x])] [] w' h)
/-- A block's object is replaced. -/
theorem Hp.put {B : Base} {S : List Asn} {F : List Fact} {w : World} {n : Nat} {o o' : Obj} (H : Hp B (blkO n o :: S) F w) : Hp B (blkO n o' :: S) F (w.putObj n o') := by
  have h1 := (Hp.own (A := blkO n o) (hp := ⟨.refl _⟩) H)
  obtain ⟨fa, ha⟩ := h1
  exact H.step (A := blkO n o) (hp := ⟨.refl _⟩) rfl rfl rfl (by simp) fun fa ha => ⟨fun b _ hb => World.putObj_heap_other fun e => hb ((ha.1 b).2 e), fa, ⟨ha.1, World.putObj_heap_same (Array.getElem?_eq_some_iff.1 ha.2).1⟩, fun b hb => .inl hb⟩
theorem Hp.objAt {B : Base} {S : List Asn} {F : List Fact} {w : World} {n : Nat} {o : Obj} (H : Hp B (blkO n o :: S) F w) : w.heap[n]? = some o := by
  obtain ⟨fa, ha⟩ := Hp.own (A := blkO n o) (hp := ⟨.refl _⟩) H
  exact ha.2
/-- The record of a loop between two rounds. -/
@[reducible] def recO (fn : FuncId) (tmps : Array Value) (p : Nat) (assign body : Code) (D : Nat) : Loop := { state := .ready, pending := none, fn, tmps, params := #[p], assign, body, defers := D }
def recJ {α : Type} (l : Nat) (r : Loop) (X : List α → Asn) (pre : List α) : Asn := packA (fun _ : Unit => True) fun _ => [blkO l (.loop r), X pre]
/-- Yield's contract out of the walks of a round's two pieces. -/
theorem YieldC.of {P : Program} {T : Tab} (hT : T.Ok P) {α : Type} {l N n : Nat} {enc : α → Value} {fn : FuncId} {e0 : Env} {tmps : Array Value} {p D : Nat} {assign body : Code} (hft : Fits [] n e0 ⟨tmps, []⟩) (hp : p < n) (ka : codeOk n assign = true) (kb : codeOk n body = true) (Ea : α → Env) (X : List α → Asn)
    (hasg : ∀ x w, ev P T n assign (fun ex e1 w1 => ex = .normal ∧ w1 = w ∧ e1 = Ea x) (upd e0 p (enc x)) w)
    (hbody : ∀ (pre : List α) (x : α) (w : World) (M I : BS), pre.length < N → Hp ⟨w, M, I⟩ [X pre] [] w → ev P T n body (fun ex _ w2 => ex = .normal ∧ Hp ⟨w, M, I⟩ [X (pre ++ [x])] [] w2) (Ea x) w) :
    YieldC P l N enc (recJ l (recO fn tmps p assign body D) X) := by
  intro pre x w M I K hN H k
  obtain ⟨_, _, H1⟩ := Hp.unpack H
  have H1 : Hp ⟨w, M, I⟩ [blkO l (.loop (recO fn tmps p assign body D)), X pre] [] w := H1
  refine CallK_yield H1.objAt rfl (tm := tmps.setIfInBounds p (enc x)) (by simp) ?_
  have hft2 : Fits [] n (upd e0 p (enc x)) ⟨tmps.setIfInBounds p (enc x), []⟩ := by
    have := hft.put (d := some p) (fun k e => by injection e with e; omega) (enc x)
    exact this
  refine roundIn_of_wpIn (F := Fence.wide) trivial ?_
  show assign.wpIn (WF (some l)) 0 P _ _ w
  refine wpIn_mono (ev_sound (ro := some l) (ds := []) hT assign _ _ w ⟨tmps.setIfInBounds p (enc x), []⟩ ka hft2 (hasg x w)) ?_
  rintro ex a1 w1 ⟨e1, hf1, rfl, rfl, rfl⟩
  refine ⟨_, run_beginRound H1.objAt rfl, ?_⟩
  have H2 : Hp ⟨w1, M, I⟩ [blkO l (.loop { recO fn tmps p assign body D with state := .busy }), X pre] [] (w1.putObj l (.loop { recO fn tmps p assign body D with state := .busy })) := H1.put
  obtain ⟨M', I', hm, _, hk⟩ := Hp.call (A := [X pre]) (S := [blkO l (.loop { recO fn tmps p assign body D with state := .busy })]) (G := []) (H2.perm (.swap _ _ _)) fun I ha f hf => by cases hf
  show body.wpIn (WF (some l)) 0 P _ _ _
  refine wpIn_mono (ev_sound (ro := some l) (ds := []) hT body _ _ _ a1 kb hf1 (hbody pre x _ M' I' hN hm)) ?_
  rintro ex a2 w2 ⟨e2, hf2, rfl, h2⟩
  have H3 := hk [X (pre ++ [x])] [] w2 h2
  have H3 : Hp ⟨w1, M, I⟩ [blkO l (.loop { recO fn tmps p assign body D with state := .busy }), X (pre ++ [x])] [] w2 := Hp.perm H3 (.swap _ _ _)
  refine ⟨_, _, run_endRound none H3.objAt, _, rfl, k _ ?_⟩
  exact Hp.pack (p := fun _ : Unit => True) (f := fun _ => [blkO l (.loop (recO fn tmps p assign body D)), X (pre ++ [x])]) () trivial (show Hp _ [blkO l (.loop (recO fn tmps p assign body D)), X (pre ++ [x])] [] _ from H3.put)
/-- The statement: the record is laid, the function is called with yield; behind it the record is where it was. -/
theorem rangeFunc_go {P : Program} {f : Nat} {cap : List Value} {g : Operand} {p : Nat} {assign body : Code} {Q : Exit → Act → World → Prop} {a : Act} {w : World} {B : Base} {S : List Asn} {F : List Fact} (H : Hp B S F w) (hg : a.eval g = .func (.func f) #[] cap.toArray)
    (k : ∀ fn l D W, Hp B (blkO l (.loop (recO fn a.tmps p assign body D)) :: blkO D (.deferred (some [])) :: S) F W →
      Exe P f (.func (.yield l) #[] #[] :: cap) W fun _ W3 => ∃ S' F', Hp B (blkO l (.loop (recO fn a.tmps p assign body D)) :: blkO D (.deferred (some [])) :: S') F' W3 ∧ ∀ W4, Hp B (blkO D (.deferred (some [])) :: S') F' W4 → Q .normal { a with defers := { target := .collected D, args := #[] } :: a.defers } W4) :
    (Code.rangeFunc g #[p] assign body).wpIn Fence.wide 0 P Q a w := by
  refine wpIn_rangeFunc fun fn _ => ?_
  have HW : Hp B (blkO (w.heap.size + 1) (.loop (recO fn a.tmps p assign body w.heap.size)) :: blkO w.heap.size (.deferred (some [])) :: S) F ((w.alloc (.deferred (some []))).alloc (.loop (recO fn a.tmps p assign body w.heap.size))) := by
    have h1 := (H.alloc (.deferred (some []))).alloc (.loop (recO fn a.tmps p assign body w.heap.size))
    rw [World.size_alloc] at h1
    exact h1
  have hx := k fn _ _ _ HW
  refine ⟨w.heap.size + 1, [{ target := .collected w.heap.size, args := #[] }], (w.alloc (.deferred (some []))).alloc (.loop (recO fn a.tmps p assign body w.heap.size)), { target := .fn (.func f) cap.toArray, args := #[.func (.yield (w.heap.size + 1)) #[] #[]] }, (w.alloc (.deferred (some []))).alloc (.loop (recO fn a.tmps p assign body w.heap.size)), f, (Value.func (.yield (w.heap.size + 1)) #[] #[] :: cap).toArray, (w.alloc (.deferred (some []))).alloc (.loop (recO fn a.tmps p assign body w.heap.size)), run_enterLoop_outer fn a.tmps #[p] assign body, ?_, fun _ _ => trivial, ?_, (fun h => by cases h), ?_⟩
  · simp [resolve, Deferred.ofValue, hg]
    rfl
  · simp [invoke, hx.1]
  · refine callsWF (r := none) (hx.2.mono ?_)
    rintro e W3 ⟨v, rfl, S', F', h3, hQ⟩
    refine ⟨none, _, run_endLoop h3.objAt (fun h => by cases h), ?_⟩
    exact hQ _ (Hp.drop h3.put)
end Go.Wk
