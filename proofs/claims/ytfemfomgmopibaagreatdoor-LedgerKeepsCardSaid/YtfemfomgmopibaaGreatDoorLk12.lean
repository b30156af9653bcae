/- How the arguments of the ledger's laws are read: keys, legs, acts. -/
import Derived.Test.YtfemfomgmopibaaGreatDoorLk11
import Derived.RangeFuncRecord
import Derived.RangeFuncLeaves
import Derived.Below
import Derived.Deep.Draws
import Derived.Lib.LaidTab
import Derived.Lib.ConvBytes
import Derived.Sort.Grow
namespace Go.Proofs.YtfemfomgmopibaaGreatDoor
open Go.ChangeShapes Go.WideShapes Go.ChangeAt Go.RowKit Go.Joins Go.Wk
section
variable {H : Type} {enc : TypeId × Value → H} {w : World} {base : Nat} {spare : Nat → Bool} {held : Bool}
instance : Inhabited Leg := ⟨⟨0, 0⟩⟩
instance : Inhabited Act := ⟨⟨0, ⟨0, 0, 0, 0⟩, [], false, 0⟩⟩
theorem cell_leg : Tryz.prog.cellsOf 43 = 2 := by kernel_rfl
theorem cell_act : Tryz.prog.cellsOf 36 = 8 := by kernel_rfl
theorem cell_key : Tryz.prog.cellsOf 26 = 4 := by kernel_rfl
theorem cell_5 : Tryz.prog.cellsOf 5 = 1 := by kernel_rfl
theorem cell_4 : Tryz.prog.cellsOf 4 = 1 := by kernel_rfl
theorem cell_23 : Tryz.prog.cellsOf 23 = 1 := by kernel_rfl
theorem cell_24 : Tryz.prog.cellsOf 24 = 1 := by kernel_rfl
theorem cell_34 : Tryz.prog.cellsOf 34 = 1 := by kernel_rfl
theorem cell_41 : Tryz.prog.cellsOf 41 = 1 := by kernel_rfl
set_option maxRecDepth 100000 in
theorem trod_leg (n : Nat) (cs : List Value) (x : DataW H × List MemPlace) (h : DataW.trod enc Tryz.prog w base spare held n 43 cs = some x) : ∃ (y : Leg) (p : Unit), legR.ok y p ∧ cs = legR.cells y p ∧ All (legR.facts y p) w (oldB w) := by
  obtain ⟨y0, y1, m, _, hl, h0, h1⟩ := trod_struct2 Tryz.underlying43 h
  rw [cell_leg] at hl
  match cs, hl with
  | [a, b], _ =>
    simp only [cell_5, cell_41, List.drop_zero, List.drop_succ_cons, List.take_succ_cons, List.take_zero] at h0 h1
    obtain ⟨a0, e0, _, w0⟩ := DataW.trod_int Tryz.underlying5 h0
    obtain ⟨a1, e1, _, w1⟩ := DataW.trod_int Tryz.underlying41 h1
    simp only [List.cons.injEq, and_true] at e0 e1
    subst e0 e1
    exact ⟨⟨a0, a1⟩, (), ⟨inK_of_wf w0, inK_of_wf w1⟩, rfl, fun f hf => by cases hf⟩
set_option maxRecDepth 100000 in
theorem trod_act (n : Nat) (cs : List Value) (x : DataW H × List MemPlace) (h : DataW.trod enc Tryz.prog w base spare held n 36 cs = some x) : ∃ (y : Act) (p : Option Addr × Nat × Nat), actR.ok y p ∧ cs = actR.cells y p ∧ All (actR.facts y p) w (oldB w) := by
  obtain ⟨y0, y1, y2, y3, y4, m, hl, h0, h1, h2, h3, h4⟩ := trod_struct5 Tryz.underlying36 h
  rw [cell_act] at hl
  match cs, hl with
  | [c0, c1, c2, c3, c4, c5, c6, c7], _ =>
    simp only [cell_5, cell_4, cell_key, cell_34, List.drop_zero, List.drop_succ_cons, List.take_succ_cons, List.take_zero] at h0 h1 h2 h3 h4
    obtain ⟨a0, e0, _, w0⟩ := DataW.trod_int Tryz.underlying5 h0
    obtain ⟨z0, z1, z2, z3, m', _, _, k0, k1, k2, k3⟩ := trod_struct4 Tryz.underlying26 h1
    simp only [cell_23, cell_24, cell_5, List.drop_zero, List.drop_succ_cons, List.take_succ_cons, List.take_zero] at k0 k1 k2 k3
    obtain ⟨b0, f0, _, u0⟩ := DataW.trod_int Tryz.underlying23 k0
    obtain ⟨b1, f1, _, u1⟩ := DataW.trod_int Tryz.underlying24 k1
    obtain ⟨b2, f2, _, u2⟩ := DataW.trod_int Tryz.underlying5 k2
    obtain ⟨b3, f3, _, u3⟩ := DataW.trod_int Tryz.underlying23 k3
    obtain ⟨A, l, c, ls, f4, hs⟩ := sl_of_cells (r := legR) Tryz.underlying34 cell_leg (by decide) trod_leg h2
    obtain ⟨r, f5, _⟩ := DataW.trod_bool Tryz.underlying4 h3
    obtain ⟨a1, e1, _, w1⟩ := DataW.trod_int Tryz.underlying5 h4
    simp only [List.cons.injEq, and_true] at e0 e1 f0 f1 f2 f3 f4 f5
    subst e0 e1 f0 f1 f2 f3 f4 f5
    have hb := inK_of_wf w1
    simp only [inK, kLo, kHi] at hb
    refine ⟨⟨a0, ⟨b0, b1, b2, b3⟩, ls, r, a1.toNat⟩, (A, l, c), ⟨⟨inK_of_wf u0, inK_of_wf u1, inK_of_wf u2, inK_of_wf u3⟩, by show a1.toNat ≤ 255; omega⟩, ?_, fun f hf => ?_⟩
    · have e : ((a1.toNat : Nat) : Int) = a1 := Int.toNat_of_nonneg hb.1
      simp only [e]
    · rw [List.mem_singleton] at hf
      subst hf
      exact hs
set_option maxRecDepth 100000 in
theorem open_acts {b0 : Nat} {v : Value} {d : DataW H} {p : List MemPlace} (hv : Value.okWide Tryz.prog w .any b0 22 v) (h : DataW.Trod enc Tryz.prog w base spare held 22 v d p) : ∃ A n c xs, v = .slice A n c ∧ (Sl actR (.slice A n c) xs).holds w (oldB w) :=
  sl_of_trod Tryz.underlying22 cell_act (by decide) trod_act h (not_agg Tryz.underlying22 hv)
end
end Go.Proofs.YtfemfomgmopibaaGreatDoor
set_option linter.unusedVariables false
namespace Go.Proofs.YtfemfomgmopibaaGreatDoor
open Go Go.Proofs Go.Wk
/-! Legs that are owned. -/
/-! What is new of a ledger's lines. -/
def Fr (n : Nat) (s : SV) : Prop := ∀ b o q, s.A = some ⟨b, o, q⟩ → n ≤ b
def FrL (n : Nat) (d d' : Led) : Prop := ∀ x, x ∈ d'.lns → x ∈ d.lns ∨ Fr n x.s
theorem FrL.refl {n : Nat} {d : Led} : FrL n d d := fun _ h => .inl h
end Go.Proofs.YtfemfomgmopibaaGreatDoor
set_option linter.unusedVariables false
namespace Go.Proofs.YtfemfomgmopibaaGreatDoor
open Go Go.Proofs Go.Wk
@[reducible] def lnZC : List Value := [.int .u32 0, .int .i32 0, .int .u8 0, .int .u32 0, .slice none 0 0, .int .i64 0]
end Go.Proofs.YtfemfomgmopibaaGreatDoor
set_option linter.unusedVariables false
namespace Go.Wk
theorem CallK_yield {P : Program} {K : Value → World → Prop} {w : World} {l : Nat} {r : Loop} {args : List Value} (h : w.heap[l]? = some (.loop r)) (hs : args.length = r.params.size) {tm : Array Value} (ht : (r.params.zip args.toArray).foldl (fun tmps (t, a) => tmps.setIfInBounds t a) r.tmps = tm)
    (k : RoundIn Fence.wide 0 P l r.fn tm r.assign r.body w fun e w'' => ∃ v, e = .returned v ∧ K v w'') : CallK P K w (.func (.yield l) #[] #[]) args := by
  refine ⟨?_⟩
  unfold NK
  have hy := run_yield (P := P) (w := w) (l := l) (r := r) (args := args.toArray) h (by simpa using hs)
  have e : (do let d ← Deferred.ofValue (.func (.yield l) #[] #[]) args.toArray; invoke d.target d.args : Sem Next) = Instr.yield l args.toArray := by
    simp [Deferred.ofValue, invoke]
  rw [ht] at hy
  rw [e, hy]
  exact k
/-- Yield's contract: J says what is kept between rounds, behind which elements. -/
def YieldC (P : Program) (l N : Nat) {α : Type} (enc : α → Value) (J : List α → Asn) : Prop :=
  ∀ (pre : List α) (x : α) (w : World) (M I : BS) (K : Value → World → Prop), pre.length < N → Hp ⟨w, M, I⟩ [J pre] [] w → (∀ w', Hp ⟨w, M, I⟩ [J (pre ++ [x])] [] w' → K (.bool true) w') → CallK P K w (.func (.yield l) #[] #[]) [enc x]
theorem yield_rule {P : Program} {l N : Nat} {α : Type} {enc : α → Value} {J : List α → Asn} {B : Base} {S S' : List Asn} {F : List Fact} {w : World} {K : Value → World → Prop} (hY : YieldC P l N enc J) (H : Hp B S F w) (pre : List α) (x : α) [hp : Take S (J pre) S'] (hN : pre.length < N)
    (k : ∀ w', Hp B (J (pre ++ [x]) :: S') F w' → K (.bool true) w') : CallK P K w (.func (.yield l) #[] #[]) [enc x] := by
  obtain ⟨M, I, hm, _, hk⟩ := Hp.call (A := [J pre]) (S := S') (G := []) (H.perm hp.perm) fun I ha f hf => by cases hf
  exact hY pre x w M I K hN hm fun w' h => k w' (hk [J (pre ++ [x])] [] w' h)
/-- A block's object is replaced. -/
theorem Hp.put {B : Base} {S : List Asn} {F : List Fact} {w : World} {n : Nat} {o o' : Obj} (H : Hp B (blkO n o :: S) F w) : Hp B (blkO n o' :: S) F (w.putObj n o') := by
  have h1 := (Hp.own (A := blkO n o) (hp := ⟨.refl _⟩) H)
  obtain ⟨fa, ha⟩ := h1
  exact H.step (A := blkO n o) (hp := ⟨.refl _⟩) rfl rfl rfl (by simp) fun fa ha => ⟨fun b _ hb => World.putObj_heap_other fun e => hb ((ha.1 b).2 e), fa, ⟨ha.1, World.putObj_heap_same (Array.getElem?_eq_some_iff.1 ha.2).1⟩, fun b hb => .inl hb⟩
theorem Hp.objAt {B : Base} {S : List Asn} {F : List Fact} {w : World} {n : Nat} {o : Obj} (H : Hp B (blkO n o :: S) F w) : w.heap[n]? = some o := by
  obtain ⟨fa, ha⟩ := Hp.own (A := blkO n o) (hp := ⟨.refl _⟩) H
  exact ha.2
/-- The record of a loop between two rounds. -/
@[reducible] def recO (fn : FuncId) (tmps : Array Value) (p : Nat) (assign body : Code) (D : Nat) : Loop := { state := .ready, pending := none, fn, tmps, params := #[p], assign, body, defers := D }
def recJ {α : Type} (l : Nat) (r : Loop) (X : List α → Asn) (pre : List α) : Asn := packA (fun _ : Unit => True) fun _ => [blkO l (.loop r), X pre]
/-- Yield's contract out of the walks of a round's two pieces. -/
theorem YieldC.of {P : Program} {T : Tab} (hT : T.Ok P) {α : Type} {l N n : Nat} {enc : α → Value} {fn : FuncId} {e0 : Env} {tmps : Array Value} {p D : Nat} {assign body : Code} (hft : Fits [] n e0 ⟨tmps, []⟩) (hp : p < n) (ka : codeOk n assign = true) (kb : codeOk n body = true) (Ea : α → Env) (X : List α → Asn)
    (hasg : ∀ x w, ev P T n assign (fun ex e1 w1 => ex = .normal ∧ w1 = w ∧ e1 = Ea x) (upd e0 p (enc x)) w)
    (hbody : ∀ (pre : List α) (x : α) (w : World) (M I : BS), pre.length < N → Hp ⟨w, M, I⟩ [X pre] [] w → ev P T n body (fun ex _ w2 => ex = .normal ∧ Hp ⟨w, M, I⟩ [X (pre ++ [x])] [] w2) (Ea x) w) :
    YieldC P l N enc (recJ l (recO fn tmps p assign body D) X) := by
  intro pre x w M I K hN H k
  obtain ⟨_, _, H1⟩ := Hp.unpack H
  have H1 : Hp ⟨w, M, I⟩ [blkO l (.loop (recO fn tmps p assign body D)), X pre] [] w := H1
  refine CallK_yield H1.objAt rfl (tm := tmps.setIfInBounds p (enc x)) (by simp) ?_
  have hft2 : Fits [] n (upd e0 p (enc x)) ⟨tmps.setIfInBounds p (enc x), []⟩ := by
    have := hft.put (d := some p) (fun k e => by injection e with e; omega) (enc x)
    exact this
  refine roundIn_of_wpIn (F := Fence.wide) trivial ?_
  show assign.wpIn (WF (some l)) 0 P _ _ w
  refine wpIn_mono (ev_sound (ro := some l) (ds := []) hT assign _ _ w ⟨tmps.setIfInBounds p (enc x), []⟩ ka hft2 (hasg x w)) ?_
  rintro ex a1 w1 ⟨e1, hf1, rfl, rfl, rfl⟩
  refine ⟨_, run_beginRound H1.objAt rfl, ?_⟩
  have H2 : Hp ⟨w1, M, I⟩ [blkO l (.loop { recO fn tmps p assign body D with state := .busy }), X pre] [] (w1.putObj l (.loop { recO fn tmps p assign body D with state := .busy })) := H1.put
  obtain ⟨M', I', hm, _, hk⟩ := Hp.call (A := [X pre]) (S := [blkO l (.loop { recO fn tmps p assign body D with state := .busy })]) (G := []) (H2.perm (.swap _ _ _)) fun I ha f hf => by cases hf
  show body.wpIn (WF (some l)) 0 P _ _ _
  refine wpIn_mono (ev_sound (ro := some l) (ds := []) hT body _ _ _ a1 kb hf1 (hbody pre x _ M' I' hN hm)) ?_
  rintro ex a2 w2 ⟨e2, hf2, rfl, h2⟩
  have H3 := hk [X (pre ++ [x])] [] w2 h2
  have H3 : Hp ⟨w1, M, I⟩ [blkO l (.loop { recO fn tmps p assign body D with state := .busy }), X (pre ++ [x])] [] w2 := Hp.perm H3 (.swap _ _ _)
  refine ⟨_, _, run_endRound none H3.objAt, _, rfl, k _ ?_⟩
  exact Hp.pack (p := fun _ : Unit => True) (f := fun _ => [blkO l (.loop (recO fn tmps p assign body D)), X (pre ++ [x])]) () trivial (show Hp _ [blkO l (.loop (recO fn tmps p assign body D)), X (pre ++ [x])] [] _ from H3.put)
/-- The statement: the record is laid, the function is called with yield; behind it the record is where it was. -/
theorem rangeFunc_go {P : Program} {f : Nat} {cap : List Value} {g : Operand} {p : Nat} {assign body : Code} {Q : Exit → Act → World → Prop} {a : Act} {w : World} {B : Base} {S : List Asn} {F : List Fact} (H : Hp B S F w) (hg : a.eval g = .func (.func f) #[] cap.toArray)
    (k : ∀ fn l D W, Hp B (blkO l (.loop (recO fn a.tmps p assign body D)) :: blkO D (.deferred (some [])) :: S) F W →
      Exe P f (.func (.yield l) #[] #[] :: cap) W fun _ W3 => ∃ S' F', Hp B (blkO l (.loop (recO fn a.tmps p assign body D)) :: blkO D (.deferred (some [])) :: S') F' W3 ∧ ∀ W4, Hp B (blkO D (.deferred (some [])) :: S') F' W4 → Q .normal { a with defers := { target := .collected D, args := #[] } :: a.defers } W4) :
    (Code.rangeFunc g #[p] assign body).wpIn Fence.wide 0 P Q a w := by
  refine wpIn_rangeFunc fun fn _ => ?_
  have HW : Hp B (blkO (w.heap.size + 1) (.loop (recO fn a.tmps p assign body w.heap.size)) :: blkO w.heap.size (.deferred (some [])) :: S) F ((w.alloc (.deferred (some []))).alloc (.loop (recO fn a.tmps p assign body w.heap.size))) := by
    have h1 := (H.alloc (.deferred (some []))).alloc (.loop (recO fn a.tmps p assign body w.heap.size))
    rw [World.size_alloc] at h1
    exact h1
  have hx := k fn _ _ _ HW
  refine ⟨w.heap.size + 1, [{ target := .collected w.heap.size, args := #[] }], (w.alloc (.deferred (some []))).alloc (.loop (recO fn a.tmps p assign body w.heap.size)), { target := .fn (.func f) cap.toArray, args := #[.func (.yield (w.heap.size + 1)) #[] #[]] }, (w.alloc (.deferred (some []))).alloc (.loop (recO fn a.tmps p assign body w.heap.size)), f, (Value.func (.yield (w.heap.size + 1)) #[] #[] :: cap).toArray, (w.alloc (.deferred (some []))).alloc (.loop (recO fn a.tmps p assign body w.heap.size)), run_enterLoop_outer fn a.tmps #[p] assign body, ?_, fun _ _ => trivial, ?_, (fun h => by cases h), ?_⟩
  · simp [resolve, Deferred.ofValue, hg]
    rfl
  · simp [invoke, hx.1]
  · refine callsWF (r := none) (hx.2.mono ?_)
    rintro e W3 ⟨v, rfl, S', F', h3, hQ⟩
    refine ⟨none, _, run_endLoop h3.objAt (fun h => by cases h), ?_⟩
    exact hQ _ (Hp.drop h3.put)
end Go.Wk
set_option linter.unusedVariables false
namespace Go.Proofs.YtfemfomgmopibaaGreatDoor
open Go Go.Proofs Go.Wk
@[reducible] def u32V (x : Int) : Value := .int .u32 x
def u32sC : List Int → List Value
  | [] => []
  | x :: r => .int .u32 x :: u32sC r
theorem u32sC_len : ∀ ls : List Int, (u32sC ls).length = ls.length
  | [] => rfl
  | x :: r => by simp only [u32sC, List.length_cons, u32sC_len r]
theorem u32sC_app : ∀ a b : List Int, u32sC (a ++ b) = u32sC a ++ u32sC b
  | [], _ => rfl
  | x :: a, b => by simp [u32sC, u32sC_app a b]
theorem u32s_at : ∀ (ls : List Int) (j : Nat) (x : Int), ls[j]? = some x → (u32sC ls)[j]? = some (.int .u32 x)
  | [], j, x, h => by simp at h
  | y :: r, 0, x, h => by simp at h; subst h; rfl
  | y :: r, j + 1, x, h => by simp only [u32sC, List.getElem?_cons_succ] at h ⊢; exact u32s_at r j x h
theorem u32s_get {ls : List Int} {j : Nat} {x : Int} (h : ls[j]? = some x) : ldV (tb 23) (u32sC ls) (0 + j * 1) = some (.int .u32 x) := by
  show (u32sC ls)[0 + j * 1]? = _
  rw [Nat.zero_add, Nat.mul_one]
  exact u32s_at ls j x h
theorem u32s_set : ∀ (ls : List Int) (j : Nat) (x : Int), setL (u32sC ls) (0 + j * 1) [.int .u32 x] = u32sC (ls.set j x)
  | [], j, x => by simp [u32sC, setL]
  | y :: r, 0, x => rfl
  | y :: r, j + 1, x => by
    have ih := u32s_set r j x
    rw [show 0 + (j + 1) * 1 = 0 + j * 1 + 1 by omega]
    simp only [u32sC, setL, List.set_cons_succ] at ih ⊢
    rw [← ih]
theorem nanU (a : Int) : CB 104 [.int .u32 a] (.bool false) := by
  intro w M I H
  refine Exe.of_ev tok Tryz.call104 Tryz.func104 rfl rfl rfl ?_
  refine Exists.intro () (And.intro ?_ (And.intro trivial H))
  show Value.bool (!(a == a)) = _
  simp
theorem lessU (a b : Int) : CB 122 [.int .u32 a, .int .u32 b] (.bool (decide (a < b))) := by
  intro w M I H
  refine Exe.of_ev tok Tryz.call122 Tryz.func122 rfl rfl rfl ?_
  refine call_rule H (fun M I _ h => nanU a _ M I h) fun _ w1 _ H1 => ?_
  exact Exists.intro () (And.intro rfl (And.intro trivial (Hp.keep H1)))
def srtU (l : List Int) : Prop := l.Pairwise fun a b => a ≤ b
set_option maxHeartbeats 1000000 in
theorem insSortU (g n c : Nat) (hn : n ≤ 1000000) (ls : List Int) (hl : ls.length = n) (w : World) (M I : BS) (H : Hp ⟨w, M, I⟩ [row 23 1 (.slice (some ⟨g, 0, none⟩) n c) n (u32sC ls)] [] w) :
    Ctr Tryz.prog 116 [.slice (some ⟨g, 0, none⟩) n c, .int .i64 0, .int .i64 n] w M I (fun _ : List Int => .tuple #[]) (fun l => l.Perm ls ∧ srtU l) (fun l => [row 23 1 (.slice (some ⟨g, 0, none⟩) n c) n (u32sC l)]) (fun _ => []) := by
  refine Exe.of_ev tok Tryz.call116 Tryz.func116 rfl rfl rfl ?_
  refine loop_rule tok (σ := Nat × List Int) 562949953420480 (fun s => [(6, .int .i64 s.1)]) (fun s w' => 1 ≤ s.1 ∧ s.1 ≤ 1000001 ∧ s.2.Perm ls ∧ srtU (s.2.take s.1) ∧ Hp ⟨w, M, I⟩ [row 23 1 (.slice (some ⟨g, 0, none⟩) n c) n (u32sC s.2)] [] w') (fun s => n - s.1) (1, ls) rfl rfl ⟨rfl, trivial⟩ ⟨Nat.le_refl _, by simp, .refl _, ?_, H⟩ ?_
  · cases ls with
    | nil => exact List.Pairwise.nil
    | cons x r => simp [srtU]
  rintro ⟨i, l1⟩ j0 w1 ⟨hi, hi2, hp, hs, H1⟩
  simp only at hi hi2 hp hs H1
  refine brd (fun h => ?_) (fun h => ?_)
  · have hlt : i < n := by omega
    have hl1 : l1.length = n := by rw [hp.length_eq, hl]
    obtain ⟨pre, y, rest, rfl, hpre⟩ : ∃ pre y rest, l1 = pre ++ y :: rest ∧ pre.length = i := by
      refine ⟨l1.take i, l1[i], l1.drop (i + 1), ?_, by rw [List.length_take]; omega⟩
      rw [List.getElem_cons_drop, List.take_append_drop]
    rw [← hpre, List.take_left] at hs
    refine loop_rule tok (σ := List Int × List Int) 562949953355904 (fun s => [(7, .int .i64 s.1.length)]) (fun s w' => s.1 ++ s.2 = pre ∧ (∀ z, z ∈ s.2 → y ≤ z) ∧ Hp ⟨w, M, I⟩ [row 23 1 (.slice (some ⟨g, 0, none⟩) n c) n (u32sC (s.1 ++ y :: (s.2 ++ rest)))] [] w') (fun s => s.1.length) (pre, []) rfl rfl ⟨?_, trivial⟩ ⟨by simp, by simp, by simpa using H1⟩ ?_
    · show Value.int .i64 _ = _
      rw [hpre]
    rintro ⟨p, s⟩ j1 w2 ⟨e, hz, H2⟩
    simp only at e hz H2
    have hps := congrArg List.length e
    have hll : pre.length + 1 + rest.length = n := by rw [← hl1]; simp; omega
    simp only [List.length_append] at hps
    have fin : ∀ w3, srtU (p ++ y :: s) → Hp ⟨w, M, I⟩ [row 23 1 (.slice (some ⟨g, 0, none⟩) n c) n (u32sC (p ++ y :: (s ++ rest)))] [] w3 → (p ++ y :: (s ++ rest)).Perm ls ∧ srtU ((p ++ y :: (s ++ rest)).take (i + 1)) := fun w3 h1 _ => by
      refine ⟨?_, ?_⟩
      · refine List.Perm.trans ?_ hp
        have e1 : pre ++ y :: rest = p ++ (s ++ y :: rest) := by rw [← e]; simp
        have e2 : p ++ y :: (s ++ rest) = p ++ (y :: s ++ rest) := by simp
        rw [e1, e2]
        refine List.Perm.append_left p ?_
        exact (List.perm_middle (a := y) (l₁ := s) (l₂ := rest)).symm
      · have e2 : p ++ y :: (s ++ rest) = (p ++ y :: s) ++ rest := by simp
        rw [e2, List.take_left' (by simp <;> omega)]
        exact h1
    have hs' : srtU (p ++ s) := by rw [e]; exact hs
    obtain ⟨hsp, hss, hsc⟩ := List.pairwise_append.1 hs'
    rcases List.eq_nil_or_concat p with hpe | ⟨p', x, hpe⟩
    · subst hpe
      refine draw_rule (A := []) tok tdr H2 [0, 1, 2, 3, 4, 5, 6, 7, 8, 9, 10, 11, 12, 13, 14] [0, 0, 3, 7, 15, 15, 63, 127, 15, 15, 527, 1807, 3855, 8191, 16383] rfl ?_
      refine done_rule fun w3 H3 => ?_
      have hf := fin w3 (List.pairwise_cons.2 ⟨fun z hz' => hz z hz', hss⟩) H3
      refine Exists.intro (i + 1, [] ++ y :: (s ++ rest)) (And.intro ⟨?_, trivial⟩ (And.intro ?_ ⟨by simp only; omega, by simp only; omega, hf.1, hf.2, H3⟩))
      · show Value.int .i64 (IntKind.i64.wrap (i + 1)) = _
        rw [w64 (by omega) (by omega)]; rfl
      · simp only; omega
    · rw [List.concat_eq_append] at hpe
      subst hpe
      simp only [List.length_append, List.length_cons, List.length_nil] at hps
      have hy : (p' ++ [x] ++ y :: (s ++ rest))[(((p' ++ [x]).length : Nat) : Int).toNat]? = some y := by simp
      have hx : (p' ++ [x] ++ y :: (s ++ rest))[(IntKind.i64.wrap ((((p' ++ [x]).length : Nat) : Int) - 1)).toNat]? = some x := by
        rw [w64 (by simp <;> omega) (by simp <;> omega)]
        simp
      have i1 : (0 : Int) ≤ (((p' ++ [x]).length : Nat) : Int) := by omega
      have i2 : (((p' ++ [x]).length : Nat) : Int) < n := by simp <;> omega
      have i3 : (0 : Int) ≤ IntKind.i64.wrap ((((p' ++ [x]).length : Nat) : Int) - 1) := by rw [w64 (by simp <;> omega) (by simp <;> omega)]; simp
      have i4 : IntKind.i64.wrap ((((p' ++ [x]).length : Nat) : Int) - 1) < n := by rw [w64 (by simp <;> omega) (by simp <;> omega)]; simp <;> omega
      refine draw_rule (A := []) tok tdr H2 [0, 1, 2, 3, 4, 5, 6, 7, 8, 9, 10, 11, 12, 13, 14] [0, 0, 3, 7, 15, 15, 63, 127, 15, 15, 527, 1807, 3855, 8191, 16383] rfl ?_
      refine brd (fun q => ?_) (fun q => ?_)
      · refine pass_rule _ (fun w h => idx_own tok rfl rfl i1 i2 ⟨rfl, rfl⟩) ?_
        refine pass_rule _ (fun w h => row_ld tok h (.int .u32 y) (u32s_get hy) ⟨rfl, rfl⟩) ?_
        refine pass_rule _ (fun w h => idx_own tok rfl rfl i3 i4 ⟨rfl, rfl⟩) ?_
        refine pass_rule _ (fun w h => row_ld tok h (.int .u32 x) (u32s_get hx) ⟨rfl, rfl⟩) ?_
        refine imp_rule (fun X w h => call_rule h (fun M I _ h => lessU y x _ M I h) fun _ w1 _ H1 => imp_done H1 ?_)
        refine done_rule fun w3 H3 => ?_
        refine brd (fun q2 => ?_) (fun q2 => ?_)
        · have hlt : y < x := q2
          have hln : (u32sC (p' ++ [x] ++ y :: (s ++ rest))).length = n := by rw [u32sC_len]; simp; omega
          have hb1 : 0 + (((p' ++ [x]).length : Nat) : Int).toNat * 1 + 1 ≤ (u32sC (p' ++ [x] ++ y :: (s ++ rest))).length := by rw [hln]; omega
          have hb2 : 0 + (IntKind.i64.wrap ((((p' ++ [x]).length : Nat) : Int) - 1)).toNat * 1 + 1 ≤ (setL (u32sC (p' ++ [x] ++ y :: (s ++ rest))) (0 + (((p' ++ [x]).length : Nat) : Int).toNat * 1) [.int .u32 x]).length := by rw [length_setL, hln]; omega
          refine draw_rule (A := [row 23 1 (.slice (some ⟨g, 0, none⟩) n c) n (u32sC (p' ++ [x] ++ y :: (s ++ rest)))]) tok tdr H3 [0, 1, 5, 6, 7, 8, 9, 10, 11, 12, 13, 14, 15, 2, 3, 4, 16, 17] [0, 0, 0, 0, 8, 0, 0, 64, 224, 480, 0, 0, 3072, 7168, 16355, 32739, 65535, 131071] rfl ?_
          refine pass_rule _ (fun w h => idx_own tok rfl rfl i3 i4 ⟨rfl, rfl⟩) ?_
          refine pass_last _ rfl (fun X w h => row_ld tok h (.int .u32 x) (u32s_get hx) ⟨rfl, rfl⟩) ?_
          refine pass_rule _ (fun w h => idx_own tok rfl rfl i1 i2 ⟨rfl, rfl⟩) ?_
          refine pass_last _ rfl (fun X w h => row_ld tok h (.int .u32 y) (u32s_get hy) ⟨rfl, rfl⟩) ?_
          refine pass_rule _ (fun w h => idx_own tok rfl rfl i1 i2 ⟨rfl, rfl⟩) ?_
          refine imp_rule (fun X w h => row_st tok h rfl rfl hb1 rfl fun w' H' => imp_done H' ?_)
          refine pass_rule _ (fun w h => idx_own tok rfl rfl i3 i4 ⟨rfl, rfl⟩) ?_
          refine imp_rule (fun X w h => row_st tok h rfl rfl hb2 rfl fun w' H' => imp_done H' ?_)
          refine done_rule fun w4 H4 => ?_
          refine Exists.intro (p', x :: s) (And.intro ⟨?_, trivial⟩ (And.intro ?_ ⟨?_, ?_, ?_⟩))
          · show Value.int .i64 (IntKind.i64.wrap _) = _
            rw [w64 (by simp <;> omega) (by simp <;> omega)]; simp
          · simp
          · simpa using e
          · intro z hz'
            rcases List.mem_cons.1 hz' with rfl | hz'
            · exact Int.le_of_lt hlt
            · exact hz z hz'
          · have ee : setL (setL (u32sC (p' ++ [x] ++ y :: (s ++ rest))) (0 + (((p' ++ [x]).length : Nat) : Int).toNat * 1) [.int .u32 x]) (0 + (IntKind.i64.wrap ((((p' ++ [x]).length : Nat) : Int) - 1)).toNat * 1) [.int .u32 y] = u32sC (p' ++ y :: (x :: s ++ rest)) := by
              rw [u32s_set, u32s_set, w64 (by simp <;> omega) (by simp <;> omega)]
              congr 1
              simp
            rw [← ee]
            exact H4
        · have hle : x ≤ y := by have q2 : ¬ y < x := q2; omega
          have hf := fin w3 (by
            refine List.pairwise_append.2 ⟨hsp, List.pairwise_cons.2 ⟨fun z hz' => hz z hz', hss⟩, fun u hu v hv => ?_⟩
            rcases List.mem_cons.1 hv with rfl | hv
            · rcases List.mem_append.1 hu with hu | hu
              · exact Int.le_trans ((List.pairwise_append.1 hsp).2.2 u hu x (by simp)) hle
              · simp only [List.mem_singleton] at hu; subst hu; exact hle
            · exact hsc u hu v hv) H3
          refine Exists.intro (i + 1, p' ++ [x] ++ y :: (s ++ rest)) (And.intro ⟨?_, trivial⟩ (And.intro ?_ ⟨by simp only; omega, by simp only; omega, hf.1, hf.2, H3⟩))
          · show Value.int .i64 (IntKind.i64.wrap (i + 1)) = _
            rw [w64 (by omega) (by omega)]; rfl
          · simp only; omega
      · exact absurd q (by simp <;> omega)
  · exact Exists.intro l1 (And.intro rfl (And.intro ⟨hp, by rwa [List.take_of_length_le (by have := hp.length_eq; omega)] at hs⟩ H1))
theorem pdqU (g n c : Nat) (hn : n ≤ 12) (z : Int) (ls : List Int) (hl : ls.length = n) (w : World) (M I : BS) (H : Hp ⟨w, M, I⟩ [row 23 1 (.slice (some ⟨g, 0, none⟩) n c) n (u32sC ls)] [] w) :
    Ctr Tryz.prog 107 [.slice (some ⟨g, 0, none⟩) n c, .int .i64 0, .int .i64 n, .int .i64 z] w M I (fun _ : List Int => .tuple #[]) (fun l => l.Perm ls ∧ srtU l) (fun l => [row 23 1 (.slice (some ⟨g, 0, none⟩) n c) n (u32sC l)]) (fun _ => []) := by
  refine Exe.of_ev tok Tryz.call107 Tryz.func107 rfl rfl rfl ?_
  refine loop_rule tok (σ := Unit) 21778071482940061661655974875633165532942 (fun _ => [(1, .int .i64 0), (2, .int .i64 n)]) (fun _ w' => Hp ⟨w, M, I⟩ [row 23 1 (.slice (some ⟨g, 0, none⟩) n c) n (u32sC ls)] [] w') (fun _ => 0) () rfl rfl ⟨rfl, rfl, trivial⟩ H ?_
  rintro ⟨⟩ j w1 H1
  have e : IntKind.i64.wrap ((n : Int) - 0) = n := by rw [Int.sub_zero]; exact w64 (by omega) (by omega)
  refine brd (fun h => ?_) (fun h => ?_)
  · refine call_rule H1 (fun M I _ h => insSortU g n c (by omega) ls hl _ M I h) fun l w2 hφ H2 => ?_
    exact Exists.intro l (And.intro rfl (And.intro hφ H2))
  · rw [e] at h; omega
theorem sortU (g n c : Nat) (hn : n ≤ 12) (ls : List Int) (hl : ls.length = n) (w : World) (M I : BS) (H : Hp ⟨w, M, I⟩ [row 23 1 (.slice (some ⟨g, 0, none⟩) n c) n (u32sC ls)] [] w) :
    Ctr Tryz.prog 77 [.slice (some ⟨g, 0, none⟩) n c] w M I (fun _ : List Int => .tuple #[]) (fun l => l.Perm ls ∧ srtU l) (fun l => [row 23 1 (.slice (some ⟨g, 0, none⟩) n c) n (u32sC l)]) (fun _ => []) := by
  refine Exe.of_ev tok Tryz.call77 Tryz.func77 rfl rfl rfl ?_
  have e : IntKind.u64.wrap (n : Int) = n := wrap_id ⟨by simp [kLo], by simp only [kHi]; omega⟩
  refine call_rule H (fun M I _ h => (by rw [e]; exact len_ n (by omega) (by omega) _ M I h)) fun z w1 _ H1 => ?_
  refine call_rule H1 (fun M I _ h => pdqU g n c hn z ls hl _ M I h) fun l w2 hφ H2 => ?_
  exact Exists.intro l (And.intro rfl (And.intro hφ H2))
theorem insNilU : CB 116 [.slice none 0 0, .int .i64 0, .int .i64 0] (.tuple #[]) := by
  intro w M I H
  refine Exe.of_ev tok Tryz.call116 Tryz.func116 rfl rfl rfl ?_
  refine loop_rule tok (σ := Unit) 562949953420480 (fun _ => [(6, .int .i64 1)]) (fun _ w' => Hp ⟨w, M, I⟩ [] [] w') (fun _ => 0) () rfl rfl ⟨rfl, trivial⟩ H ?_
  rintro ⟨⟩ j w1 H1
  exact Exists.intro () (And.intro rfl (And.intro trivial H1))
theorem pdqNilU (z : Int) : CB 107 [.slice none 0 0, .int .i64 0, .int .i64 0, .int .i64 z] (.tuple #[]) := by
  intro w M I H
  refine Exe.of_ev tok Tryz.call107 Tryz.func107 rfl rfl rfl ?_
  refine loop_rule tok (σ := Unit) 21778071482940061661655974875633165532942 (fun _ => [(1, .int .i64 0), (2, .int .i64 0)]) (fun _ w' => Hp ⟨w, M, I⟩ [] [] w') (fun _ => 0) () rfl rfl ⟨rfl, rfl, trivial⟩ H ?_
  rintro ⟨⟩ j w1 H1
  refine call_rule H1 (fun M I _ h => insNilU _ M I h) fun _ w2 _ H2 => ?_
  exact Exists.intro () (And.intro rfl (And.intro trivial (Hp.keep H2)))
theorem sortNilU : CB 77 [.slice none 0 0] (.tuple #[]) := by
  intro w M I H
  refine Exe.of_ev tok Tryz.call77 Tryz.func77 rfl rfl rfl ?_
  refine call_rule H (fun M I _ h => len_ 0 (by decide) (by decide) _ M I h) fun z w1 _ H1 => ?_
  refine call_rule H1 (fun M I _ h => pdqNilU z _ M I h) fun _ w2 _ H2 => ?_
  exact Exists.intro () (And.intro rfl (And.intro trivial (Hp.keep H2)))
/-! A map's keys come one by one. -/
theorem keysIt (l N Bm m : Nat) (J : List Int → Asn) (hY : YieldC Tryz.prog l N u32V J) (lst : List (Int × Int)) (hN : lst.length ≤ N) (w : World) (M I : BS) (H : Hp ⟨w, M, I⟩ [J [], blk Bm [.map (some m)] 59, mapO m u32V iV lst] [] w) :
    Ctr Tryz.prog 78 [.func (.yield l) #[] #[], .pointer (some ⟨Bm, 0, none⟩)] w M I (fun _ : List Int => .tuple #[]) (fun xs => xs.Perm (lst.map (·.1))) (fun xs => [J xs, blk Bm [.map (some m)] 59, mapO m u32V iV lst]) (fun _ => []) := by
  refine Exe.of_ev tok Tryz.call78 Tryz.func78 rfl rfl rfl ?_
  refine load_rule tok H (v := .map (some m)) rfl ?_
  refine range_rule (n := m) tok H rfl fun it w1 H1 => ?_
  have H1 : Hp ⟨w, M, I⟩ [J [], blk Bm [.map (some m)] 59, rngO m it u32V iV lst lst none] [] w1 := Hp.keep H1
  refine loop_rule tok (σ := List Int × List (Int × Int) × Option (Int × Int)) 16328 (fun _ => [])
    (fun s w' => (s.1 ++ s.2.1.map (·.1)).Perm (lst.map (·.1)) ∧ Hp ⟨w, M, I⟩ [J s.1, blk Bm [.map (some m)] 59, rngO m it u32V iV lst s.2.1 s.2.2] [] w') (fun s => s.2.1.length) ([], lst, none) rfl rfl trivial ⟨.refl _, H1⟩ ?_
  rintro ⟨pre, lf, cur⟩ j w2 ⟨hp, H2⟩
  simp only at hp H2
  refine next_rule (n := m) H2 (fun hl => ?_) fun a p b w3 hl H3 => ?_
  · subst hl
    have H4 : Hp ⟨w, M, I⟩ [mapO m u32V iV lst, J pre, blk Bm [.map (some m)] 59] [] w2 := Hp.keep (Hp.rngBack (n := m) (g := it) H2)
    exact Exists.intro pre (And.intro rfl (And.intro (by simpa using hp) (Hp.keep H4)))
  · subst hl
    have hlen : pre.length < N := by
      have := hp.length_eq
      simp at this
      omega
    refine entry_rule (n := m) H3 ?_
    refine yield_rule hY H3 pre p.1 hlen fun w4 H4 => ?_
    refine Exists.intro (pre ++ [p.1], a ++ b, some p) (And.intro trivial (And.intro ?_ ⟨?_, Hp.keep H4⟩))
    · simp only [List.length_append, List.length_cons]; omega
    · refine List.Perm.trans ?_ hp
      simp only [List.map_append, List.map_cons, List.append_assoc, List.singleton_append]
      exact List.Perm.append_left pre (List.perm_middle (a := p.1) (l₁ := a.map (·.1)) (l₂ := b.map (·.1))).symm
theorem fits_arg (args : List Value) (n : Nat) {t : Array Value} (ht : t = args.toArray ++ Array.replicate (n - args.toArray.size) undef) (hn : args.length ≤ n) : Fits [] n (argEnv args) ⟨t, []⟩ := by
  subst ht
  refine ⟨rfl, by simp; omega, fun t => ?_⟩
  simp only [argEnv, Array.getD_eq_getD_getElem?, List.getD_eq_getElem?_getD]
  rcases Nat.lt_or_ge t args.length with ht | ht
  · rw [Array.getElem?_append_left (by simpa using ht)]; simp
  · rw [Array.getElem?_append_right (by simpa using ht), List.getElem?_eq_none ht]
    simp only [Option.getD_none, Array.getElem?_replicate]
    split <;> rfl
/-- What AppendSeq keeps between two rounds. -/
def apX (bs : Nat) (pre : List Int) : Asn := packA (fun a : SV => a.n = pre.length) fun a => [blk bs [.slice a.A a.n a.c] 57, row 23 1 (.slice a.A a.n a.c) a.n (u32sC pre)]
noncomputable def apA : Code := match Tryz.f106.body with
  | some (.seq _ (.seq (.seq _ (.block _ (.rangeFunc _ _ a _))) _)) => a
  | _ => .skip
noncomputable def apB : Code := match Tryz.f106.body with
  | some (.seq _ (.seq (.seq _ (.block _ (.rangeFunc _ _ _ b))) _)) => b
  | _ => .skip
set_option maxRecDepth 20000 in
theorem appendSeq (Bm m : Nat) (lst : List (Int × Int)) (hN : lst.length ≤ 100000) (w : World) (M I : BS) (H : Hp ⟨w, M, I⟩ [blk Bm [.map (some m)] 59, mapO m u32V iV lst] [] w) :
    Ctr Tryz.prog 106 [.slice none 0 0, .func (.func 78) #[] #[.pointer (some ⟨Bm, 0, none⟩)]] w M I (fun a : SV × List Int => .slice a.1.A a.1.n a.1.c) (fun a => a.2.Perm (lst.map (·.1)) ∧ a.1.n = a.2.length) (fun a => [row 23 1 (.slice a.1.A a.1.n a.1.c) a.1.n (u32sC a.2), blk Bm [.map (some m)] 59, mapO m u32V iV lst]) (fun _ => []) := by
  refine ⟨Tryz.call106, (callsIn_wide (n := 0)).1 (callsIn_of_wp_marks (F := Fence.wide) Tryz.func106 rfl trivial ?_ rfl)⟩
  refine wpIn_seq ?_
  refine wpIn_mono (ev_sound (ro := none) (ds := []) (n := 13) tok _ (fun x e' w' => x = .normal ∧ ∃ bs, Has e' [(1, .func (.func 78) #[] #[.pointer (some ⟨Bm, 0, none⟩)]), (2, .pointer (some ⟨bs, 0, none⟩))] ∧ Hp ⟨w, M, I⟩ [blk bs [.slice none 0 0] 57, blk Bm [.map (some m)] 59, mapO m u32V iV lst] [] w') (argEnv [.slice none 0 0, .func (.func 78) #[] #[.pointer (some ⟨Bm, 0, none⟩)]]) w _ rfl ?fits ?ev0) ?_
  case ev0 =>
    refine box_as H [.slice none 0 0] rfl fun bs w1 H1 => ?_
    exact And.intro rfl (Exists.intro bs (And.intro ⟨rfl, rfl, trivial⟩ H1))
  case fits =>
    exact fits_arg _ _ rfl (Nat.le_of_ble_eq_true rfl)
  rintro x a1 w1 ⟨e1, hf1, rfl, bs, hh, H1⟩
  have he1 := sets_of (Off.refl 0 e1) hh
  refine wpIn_seq (wpIn_seq ?_)
  refine wpIn_mono (ev_sound (ro := none) (ds := []) (n := 13) tok _ (fun x e' w' => x = .normal ∧ Has e' [(6, .func (.func 78) #[] #[.pointer (some ⟨Bm, 0, none⟩)]), (2, .pointer (some ⟨bs, 0, none⟩))] ∧ w' = w1) e1 w1 a1 rfl hf1 ?ev1) ?_
  case ev1 =>
    rw [he1]
    exact And.intro rfl (And.intro ⟨rfl, rfl, trivial⟩ rfl)
  rintro x a2 w2 ⟨e2, hf2, rfl, hh2, rfl⟩
  have he2 := sets_of (Off.refl 0 e2) hh2
  have hf2e := hf2
  rw [he2] at hf2e
  refine wpIn_block ?_
  have hg : a2.eval (.tmp 6) = .func (.func 78) #[] [Value.pointer (some ⟨Bm, 0, none⟩)].toArray := by
    rw [hf2.eval]
    exact hh2.1
  refine rangeFunc_go H1 hg fun fn l D W HW => ?_
  have hft : Fits [] 13 (sets (havoc 0 e2 e2) [(6, .func (.func 78) #[] #[.pointer (some ⟨Bm, 0, none⟩)]), (2, .pointer (some ⟨bs, 0, none⟩))]) ⟨a2.tmps, []⟩ := ⟨rfl, hf2e.2.1, hf2e.2.2⟩
  have hY := YieldC.of (P := Tryz.prog) tok (l := l) (N := 100000) (n := 13) (enc := u32V) (fn := fn) (p := 7) (D := D) (assign := apA) (body := apB) hft (by decide) rfl rfl (fun x => upd (upd (sets (havoc 0 e2 e2) [(6, .func (.func 78) #[] #[.pointer (some ⟨Bm, 0, none⟩)]), (2, .pointer (some ⟨bs, 0, none⟩))]) 7 (u32V x)) 5 (u32V x)) (apX bs)
    (fun x w => And.intro rfl (And.intro rfl rfl)) (fun pre x w M I hlen Hx => by
      obtain ⟨sv, hsv, Hx⟩ := Hp.unpack Hx
      have hsv : sv.n = pre.length := hsv
      have Hx : Hp ⟨w, M, I⟩ [blk bs [.slice sv.A sv.n sv.c] 57, row 23 1 (.slice sv.A sv.n sv.c) sv.n (u32sC pre)] [] w := Hx
      refine load_rule tok Hx (v := .slice sv.A sv.n sv.c) rfl ?_
      refine slice_as tok Hx [.int .u32 x] rfl rfl rfl rfl rfl rfl fun g w1 H1 => ?_
      refine append_rule (v := .slice sv.A sv.n sv.c) (b := g) (m := 1) (c := 1) tok H1 rfl rfl rfl rfl rfl rfl rfl rfl (by show (sv.n + 1) * 4 ≤ _; omega) (by omega) fun A2 c2 w2 H2 => ?_
      refine store_as tok H2 [.slice A2 (sv.n + 1) c2] rfl rfl rfl rfl rfl fun w3 H3 => ?_
      have H3 : Hp ⟨w, M, I⟩ [blk bs [.slice A2 (sv.n + 1) c2] 57, row 23 1 (.slice A2 (sv.n + 1) c2) (sv.n + 1) (u32sC pre ++ [.int .u32 x])] [] w3 := Hp.keep H3
      have e : u32sC pre ++ [.int .u32 x] = u32sC (pre ++ [x]) := by rw [u32sC_app]; rfl
      rw [e] at H3
      exact And.intro rfl (Hp.pack (p := fun a : SV => a.n = (pre ++ [x]).length) (f := fun a => [blk bs [.slice a.A a.n a.c] 57, row 23 1 (.slice a.A a.n a.c) a.n (u32sC (pre ++ [x]))]) ⟨A2, sv.n + 1, c2⟩ (by simp [hsv]) H3))
  have HW : Hp ⟨w, M, I⟩ [blkO l (.loop (recO fn a2.tmps 7 apA apB D)), blkO D (.deferred (some [])), blk bs [.slice none 0 0] 57, blk Bm [.map (some m)] 59, mapO m u32V iV lst] [] W := HW
  show Exe Tryz.prog 78 [.func (.yield l) #[] #[], .pointer (some ⟨Bm, 0, none⟩)] W fun _ W3 => ∃ S' F', Hp ⟨w, M, I⟩ (blkO l (.loop (recO fn a2.tmps 7 apA apB D)) :: blkO D (.deferred (some [])) :: S') F' W3 ∧ ∀ W4, Hp ⟨w, M, I⟩ (blkO D (.deferred (some [])) :: S') F' W4 → _
  generalize hrec : recO fn a2.tmps 7 apA apB D = rec at hY HW ⊢
  have HX : Hp ⟨w, M, I⟩ [recJ l rec (apX bs) [], blk Bm [.map (some m)] 59, mapO m u32V iV lst, blkO D (.deferred (some []))] [] W := by
    have h1 := Hp.nil HW 23 1
    have h1 : Hp ⟨w, M, I⟩ [blk bs [.slice none 0 0] 57, row 23 1 (.slice none 0 0) 0 [], blkO l (.loop rec), blk Bm [.map (some m)] 59, mapO m u32V iV lst, blkO D (.deferred (some []))] [] W := Hp.keep h1
    have h2 : Hp ⟨w, M, I⟩ [apX bs [], blkO l (.loop rec), blk Bm [.map (some m)] 59, mapO m u32V iV lst, blkO D (.deferred (some []))] [] W := Hp.pack (p := fun a : SV => a.n = ([] : List Int).length) (f := fun a => [blk bs [.slice a.A a.n a.c] 57, row 23 1 (.slice a.A a.n a.c) a.n (u32sC [])]) ⟨none, 0, 0⟩ rfl h1
    have h3 : Hp ⟨w, M, I⟩ [blkO l (.loop rec), apX bs [], blk Bm [.map (some m)] 59, mapO m u32V iV lst, blkO D (.deferred (some []))] [] W := Hp.perm h2 (.swap _ _ _)
    exact Hp.pack (p := fun _ : Unit => True) (f := fun _ => [blkO l (.loop rec), apX bs []]) () trivial h3
  obtain ⟨M', I', hm, _, hk⟩ := Hp.call (A := [recJ l rec (apX bs) [], blk Bm [.map (some m)] 59, mapO m u32V iV lst]) (S := [blkO D (.deferred (some []))]) (G := []) HX fun I ha f hf => by cases hf
  refine Exe.mono (keysIt l 100000 Bm m (recJ l rec (apX bs)) hY lst hN W M' I' hm) ?_
  rintro v W3 ⟨xs, rfl, hperm, h3⟩
  have H3 := hk _ [] W3 h3
  obtain ⟨_, _, H3⟩ := Hp.unpack (show Hp ⟨w, M, I⟩ (recJ l rec (apX bs) xs :: [blk Bm [.map (some m)] 59, mapO m u32V iV lst, blkO D (.deferred (some []))]) [] W3 from H3)
  have H3 : Hp ⟨w, M, I⟩ [blkO l (.loop rec), apX bs xs, blk Bm [.map (some m)] 59, mapO m u32V iV lst, blkO D (.deferred (some []))] [] W3 := H3
  have H3 : Hp ⟨w, M, I⟩ (blkO l (.loop rec) :: blkO D (.deferred (some [])) :: [apX bs xs, blk Bm [.map (some m)] 59, mapO m u32V iV lst]) [] W3 := Hp.perm H3 (List.Perm.cons _ (by
    have : ([apX bs xs, blk Bm [.map (some m)] 59, mapO m u32V iV lst] ++ [blkO D (.deferred (some []))]).Perm ([blkO D (.deferred (some []))] ++ [apX bs xs, blk Bm [.map (some m)] 59, mapO m u32V iV lst]) := List.perm_append_comm
    exact this))
  refine ⟨[apX bs xs, blk Bm [.map (some m)] 59, mapO m u32V iV lst], [], H3, fun W4 H4 => ?_⟩
  have H4 : Hp ⟨w, M, I⟩ [apX bs xs, blk Bm [.map (some m)] 59, mapO m u32V iV lst, blkO D (.deferred (some []))] [] W4 := Hp.perm H4 (by
    have : ([blkO D (.deferred (some []))] ++ [apX bs xs, blk Bm [.map (some m)] 59, mapO m u32V iV lst]).Perm ([apX bs xs, blk Bm [.map (some m)] 59, mapO m u32V iV lst] ++ [blkO D (.deferred (some []))]) := List.perm_append_comm
    exact this)
  obtain ⟨sv, hsv, H5⟩ := Hp.unpack H4
  have H5 : Hp ⟨w, M, I⟩ [blk bs [.slice sv.A sv.n sv.c] 57, row 23 1 (.slice sv.A sv.n sv.c) sv.n (u32sC xs), blk Bm [.map (some m)] 59, mapO m u32V iV lst, blkO D (.deferred (some []))] [] W4 := H5
  show (Code.seq _ Code.ret).wpIn Fence.wide 0 Tryz.prog _ _ W4
  refine wpIn_mono (ev_sound (ro := none) (ds := [{ target := .collected D, args := #[] }]) (n := 13) tok _ (fun x e' w' => x = .ret ∧ e' 4 = .slice sv.A sv.n sv.c ∧ w' = W4) _ W4 _ rfl ⟨by show _ :: a2.defers = _; rw [hf2.1], hf2e.2.1, hf2e.2.2⟩ ?ev2) ?_
  case ev2 =>
    refine load_rule tok H5 (v := .slice sv.A sv.n sv.c) rfl ?_
    exact And.intro rfl (And.intro rfl rfl)
  rintro x a3 w3 ⟨e3, hf3, rfl, h4, rfl⟩
  show LeavesInM Fence.wide 0 Tryz.prog Tryz.f106 a3.tmps _ a3.defers .returning w3
  rw [hf3.1]
  have H6 : Hp ⟨w, M, I⟩ (blkO D (.deferred (some [])) :: [row 23 1 (.slice sv.A sv.n sv.c) sv.n (u32sC xs), blk Bm [.map (some m)] 59, mapO m u32V iV lst]) [] w3 := by
    have h := Hp.drop H5
    refine Hp.perm h ?_
    have : ([row 23 1 (.slice sv.A sv.n sv.c) sv.n (u32sC xs), blk Bm [.map (some m)] 59, mapO m u32V iV lst] ++ [blkO D (.deferred (some []))]).Perm ([blkO D (.deferred (some []))] ++ [row 23 1 (.slice sv.A sv.n sv.c) sv.n (u32sC xs), blk Bm [.map (some m)] 59, mapO m u32V iV lst]) := List.perm_append_comm
    exact this
  refine ⟨(fun h => by cases h), .inl ⟨D, _, rfl, run_takeDeferred H6.objAt, ?_⟩⟩
  refine ⟨_, results_tmp rfl a3.tmps Tryz.prog _, _, rfl, (sv, xs), ?_, ⟨hperm, hsv⟩, Hp.drop (Hp.put (o' := .deferred none) H6)⟩
  rw [hf3.2.2 4, h4]
/-! Collected, sorted; the loans of a ledger. -/
theorem collectU (Bm m : Nat) (lst : List (Int × Int)) (hN : lst.length ≤ 100000) (w : World) (M I : BS) (H : Hp ⟨w, M, I⟩ [blk Bm [.map (some m)] 59, mapO m u32V iV lst] [] w) :
    Ctr Tryz.prog 76 [.func (.func 78) #[] #[.pointer (some ⟨Bm, 0, none⟩)]] w M I (fun a : SV × List Int => .slice a.1.A a.1.n a.1.c) (fun a => a.2.Perm (lst.map (·.1)) ∧ a.1.n = a.2.length) (fun a => [row 23 1 (.slice a.1.A a.1.n a.1.c) a.1.n (u32sC a.2)]) (fun _ => []) := by
  refine Exe.of_ev tok Tryz.call76 Tryz.func76 rfl rfl rfl ?_
  refine call_rule H (fun M I _ h => appendSeq Bm m lst hN _ M I h) fun a w1 ha H1 => ?_
  exact Exists.intro a (And.intro rfl (And.intro ha (Hp.keep H1)))
theorem sortedU (Bm m : Nat) (lst : List (Int × Int)) (hN : lst.length ≤ 12) (w : World) (M I : BS) (H : Hp ⟨w, M, I⟩ [blk Bm [.map (some m)] 59, mapO m u32V iV lst] [] w) :
    Ctr Tryz.prog 47 [.func (.func 78) #[] #[.pointer (some ⟨Bm, 0, none⟩)]] w M I (fun a : SV × List Int => .slice a.1.A a.1.n a.1.c) (fun a => a.2.Perm (lst.map (·.1)) ∧ srtU a.2 ∧ a.1.n = a.2.length) (fun a => [row 23 1 (.slice a.1.A a.1.n a.1.c) a.1.n (u32sC a.2)]) (fun _ => []) := by
  refine Exe.of_ev tok Tryz.call47 Tryz.func47 rfl rfl rfl ?_
  refine call_rule H (fun M I _ h => collectU Bm m lst (by omega) _ M I h) fun a => ?_
  rcases a with ⟨⟨A, n, c⟩, xs⟩
  intro w1 ha H1
  simp only at ha H1
  have hlen : xs.length = lst.length := by have := ha.1.length_eq; simpa using this
  have hn := ha.2
  by_cases h0 : n = 0
  · have hx : xs = [] := List.length_eq_zero_iff.1 (by omega)
    subst hx
    have hA : A = none ∧ c = 0 ∨ ∃ b, A = some ⟨b, 0, none⟩ := by
      obtain ⟨fa, hf⟩ := Hp.own (A := row 23 1 (.slice A n c) n (u32sC [])) (hp := ⟨.refl _⟩) H1
      obtain ⟨⟨_, q⟩, _⟩ := hf
      rcases q with ⟨e, _⟩ | ⟨g, cap, cur, e, _⟩
      · left; injection e with e1 e2 e3; exact ⟨e1, e3⟩
      · right; injection e with e1 e2 e3; exact ⟨g, e1⟩
    subst h0
    rcases hA with ⟨rfl, rfl⟩ | ⟨b, rfl⟩
    · refine call_rule H1 (fun M I _ h => sortNilU _ M I h) fun _ w2 _ H2 => ?_
      exact Exists.intro (⟨none, 0, 0⟩, []) (And.intro rfl (And.intro ⟨ha.1, List.Pairwise.nil, rfl⟩ (Hp.keep H2)))
    · refine call_rule H1 (fun M I _ h => sortU b 0 c (by decide) [] rfl _ M I h) fun l w2 hl H2 => ?_
      have hl0 : l = [] := List.length_eq_zero_iff.1 (by have := hl.1.length_eq; simpa using this)
      subst hl0
      exact Exists.intro (⟨some ⟨b, 0, none⟩, 0, c⟩, []) (And.intro rfl (And.intro ⟨ha.1, List.Pairwise.nil, rfl⟩ (Hp.keep H2)))
  · obtain ⟨b, rfl⟩ := H1.rowSome (A := A) (n := n) (c := c) h0
    refine call_rule H1 (fun M I _ h => sortU b n c (by omega) xs hn.symm _ M I h) fun l w2 hl H2 => ?_
    exact Exists.intro (⟨some ⟨b, 0, none⟩, n, c⟩, l) (And.intro rfl (And.intro ⟨hl.1.trans ha.1, hl.2, by show n = l.length; rw [hn, hl.1.length_eq]⟩ (Hp.keep H2)))
theorem keysU (m : Nat) (lst : List (Int × Int)) (w : World) (M I : BS) (H : Hp ⟨w, M, I⟩ [mapO m u32V iV lst] [] w) :
    Ctr Tryz.prog 48 [.map (some m)] w M I (fun b : Nat => .func (.func 78) #[] #[.pointer (some ⟨b, 0, none⟩)]) (fun _ => True) (fun b => [blk b [.map (some m)] 59, mapO m u32V iV lst]) (fun _ => []) := by
  refine Exe.of_ev tok Tryz.call48 Tryz.func48 rfl rfl rfl ?_
  refine box_as H [.map (some m)] rfl fun b w1 H1 => ?_
  refine Exists.intro b (And.intro ?_ (And.intro trivial (Hp.keep H1)))
  show Value.func (.func 78) (#[].map _) (#[_].map _) = _
  simp
  rfl
end Go.Proofs.YtfemfomgmopibaaGreatDoor
set_option linter.unusedVariables false
namespace Go.Wk
section
variable {P : Program} {T : Tab} {K : Value → World → Prop} {w : World} {B : Base} {S S' : List Asn} {F : List Fact}
theorem idx_ownA (hT : T.Ok P) {t e : TypeId} {it : TypeInfo} {de : TD} {A : Option Addr} {b o n c : Nat} {kd : IntKind} {j : Int} (hA : A = some ⟨b, o, none⟩) (ht : T t = some ⟨.slice e, it⟩) (he : T e = some de) (h0 : 0 ≤ j) (h1 : j < n)
    (k : K (.pointer (some ⟨b, o + j.toNat * de.info.size, none⟩)) w) : IdxAddrK P K w t (.slice A n c) (.int kd j) := by
  subst hA
  exact idx_own hT ht he h0 h1 k
theorem row_ldA (hT : T.Ok P) (H : Hp B S F w) {A : Option Addr} {b o e sz n c : Nat} {cs : List Value} {t : TypeId} (v : Value) (hA : A = some ⟨b, 0, none⟩) [hp : TakeR S (.slice A n c) e sz n cs S'] (h : ldV (T t) cs o = some v) (k : K v w) : LoadK P K w t (.pointer (some ⟨b, o, none⟩)) := by
  subst hA
  obtain ⟨fa, ha⟩ := H.own (A := row e sz (.slice (some ⟨b, 0, none⟩) n c) n cs) (hp := ⟨hp.perm⟩)
  obtain ⟨_, _, hc, _⟩ := row_cells ha rfl
  have := hc.of_ld hT h
  rw [Nat.zero_add] at this
  exact this.load k
end
end Go.Wk
namespace Go.Proofs.YtfemfomgmopibaaGreatDoor
open Go Go.Proofs Go.Wk
/-! How many lines each loan has. -/
@[reducible] def bump (m : List (Int × Int)) (k : Int) : List (Int × Int) := putL k ((lk k m).getD 0 + 1) m
def cntL (ls : List Int) : List (Int × Int) := ls.foldl bump []
def lnLoans (xs : List Ln) : List Int := xs.map (·.k.loan)
theorem cntL_snoc (ls : List Int) (x : Int) : cntL (ls ++ [x]) = bump (cntL ls) x := by unfold cntL; rw [List.foldl_append]; rfl
theorem cnt_nd : ∀ (ls : List Int) (m : List (Int × Int)), (m.map (·.1)).Nodup → ((ls.foldl bump m).map (·.1)).Nodup
  | [], m, h => h
  | x :: r, m, h => cnt_nd r _ (nodup_put h)
theorem cnt_keys (p : Int) : ∀ (ls : List Int) (m : List (Int × Int)), p ∈ (ls.foldl bump m).map (·.1) ↔ p ∈ ls ∨ p ∈ m.map (·.1)
  | [], m => by simp
  | x :: r, m => by
    rw [List.foldl_cons, cnt_keys p r, bump, put_keys, List.mem_cons]
    constructor
    · rintro (h | h | h)
      · exact .inl (.inr h)
      · exact .inl (.inl h)
      · exact .inr h
    · rintro ((h | h) | h)
      · exact .inr (.inl h)
      · exact .inl h
      · exact .inr (.inr h)
theorem cnt_eq (p : Int) : ∀ (ls : List Int) (m : List (Int × Int)), (lk p (ls.foldl bump m)).getD 0 = (lk p m).getD 0 + ((ls.filter (· == p)).length : Int)
  | [], m => by simp
  | x :: r, m => by
    rw [List.foldl_cons, cnt_eq p r, bump]
    by_cases h : x = p
    · subst h
      rw [lk_put_eq, List.filter_cons_of_pos (by simp)]
      simp only [Option.getD_some, List.length_cons]
      omega
    · rw [lk_put_ne (Ne.symm h), List.filter_cons_of_neg (by simpa using h)]
theorem cnt_bd (ls : List Int) (p : Int) : 0 ≤ (lk p (cntL ls)).getD 0 ∧ (lk p (cntL ls)).getD 0 ≤ ls.length := by
  have h := cnt_eq p ls []
  have h2 := List.length_filter_le (· == p) ls
  unfold cntL
  rw [h]
  simp only [lk, Option.getD_none]
  omega
theorem nodup_len : ∀ (S l : List Int), l.Nodup → (∀ x, x ∈ l → x ∈ S) → l.length ≤ S.length
  | [], l, _, h => by
    cases l with
    | nil => exact Nat.le_refl _
    | cons x r => exact absurd (h x List.mem_cons_self) (by simp)
  | a :: S, l, hn, h => by
    have h1 := nodup_len S (l.erase a) (hn.erase a) (fun x hx => by
      have hxl := List.mem_of_mem_erase hx
      rcases List.mem_cons.1 (h x hxl) with e | e
      · subst e
        exact absurd hx (List.Nodup.not_mem_erase hn)
      · exact e)
    have h2 : l.length ≤ (l.erase a).length + 1 := by
      rw [List.length_erase]
      split <;> omega
    simp only [List.length_cons]
    omega
theorem cnt_few {ls : List Int} (h : ∀ x, x ∈ ls → 0 ≤ x ∧ x < 5) : (cntL ls).length ≤ 5 := by
  have := nodup_len [0, 1, 2, 3, 4] ((cntL ls).map (·.1)) (cnt_nd ls [] List.nodup_nil) (fun x hx => by
    have := ((cnt_keys x ls []).1 hx).resolve_right (by simp)
    have := h x this
    simp
    omega)
  simpa using this
theorem getVI (m : List (Int × Int)) (p : Int) : Value.int .i64 ((lk p m).getD 0) = ((lk p m).map iV).getD (.int .i64 0) := by cases lk p m <;> rfl
theorem lnLoans_take {xs : List Ln} {i : Nat} {x : Ln} (h : xs[i]? = some x) : cntL (lnLoans (xs.take (i + 1))) = bump (cntL (lnLoans (xs.take i))) x.k.loan := by
  rw [List.take_add_one, h]
  unfold lnLoans
  rw [List.map_append]
  exact cntL_snoc _ _
set_option maxRecDepth 20000 in
theorem loansL (l m1 m2 : Nat) (s : SV) (xs : List Ln) (hx : xs.length ≤ 1000) (hsn : s.n = xs.length) (hlo : ∀ x, x ∈ lnLoans xs → 0 ≤ x ∧ x < 5) (w : World) (M I : BS) (H : Hp ⟨w, M, I⟩ [blk l [.slice s.A s.n s.c, .map (some m1), .map (some m2)] 85, row 69 6 (.slice s.A s.n s.c) s.n (lnsC xs)] [] w) :
    Ctr Tryz.prog 20 [.pointer (some ⟨l, 0, none⟩)] w M I (fun a : SV × List Int => .slice a.1.A a.1.n a.1.c) (fun a => a.2.Perm ((cntL (lnLoans xs)).map (·.1)) ∧ srtU a.2 ∧ a.1.n = a.2.length)
      (fun a => [row 23 1 (.slice a.1.A a.1.n a.1.c) a.1.n (u32sC a.2), blk l [.slice s.A s.n s.c, .map (some m1), .map (some m2)] 85, row 69 6 (.slice s.A s.n s.c) s.n (lnsC xs)]) (fun _ => []) := by
  refine Exe.of_ev tok Tryz.call20 Tryz.func20 rfl rfl rfl ?_
  refine makeMap_rule H u32V iV fun m w1 H1 => ?_
  refine load_rule tok H1 (v := .slice s.A s.n s.c) rfl ?_
  have H1 : Hp ⟨w, M, I⟩ [mapO m u32V iV (cntL (lnLoans (xs.take 0))), blk l [.slice s.A s.n s.c, .map (some m1), .map (some m2)] 85, row 69 6 (.slice s.A s.n s.c) s.n (lnsC xs)] [] w1 := H1
  refine loop_rule tok (σ := Nat) 67092512 (fun i => [(14, .int .i64 (i : Int))]) (fun i w' => i ≤ s.n ∧ Hp ⟨w, M, I⟩ [mapO m u32V iV (cntL (lnLoans (xs.take i))), blk l [.slice s.A s.n s.c, .map (some m1), .map (some m2)] 85, row 69 6 (.slice s.A s.n s.c) s.n (lnsC xs)] [] w') (fun i => s.n - i) 0 rfl rfl ⟨rfl, trivial⟩ ⟨Nat.zero_le _, H1⟩ ?_
  intro i j w2 hW
  have hi := hW.1
  have H2 := hW.2
  refine brd (fun hlt => ?_) (fun hge => ?_)
  · have hlt' : i < xs.length := by omega
    have ew : IntKind.i64.wrap ((i : Int) + 1) = ((i + 1 : Nat) : Int) := w64 (by omega) (by omega)
    refine Exists.elim (H2.rowSome (A := s.A) (n := s.n) (c := s.c) (by omega)) fun b hA => ?_
    refine Exists.elim (⟨_, List.getElem?_eq_getElem hlt'⟩ : ∃ x, xs[i]? = some x) fun x hx => ?_
    have hcb := cnt_bd (lnLoans (xs.take i)) x.k.loan
    have hll : (lnLoans (xs.take i)).length ≤ 1000 := by unfold lnLoans; rw [List.length_map, List.length_take]; omega
    have ec : IntKind.i64.wrap ((lk x.k.loan (cntL (lnLoans (xs.take i)))).getD 0 + 1) = (lk x.k.loan (cntL (lnLoans (xs.take i)))).getD 0 + 1 := w64 (by omega) (by omega)
    refine idx_ownA tok hA rfl rfl (by omega) hlt ?_
    refine row_ldA tok H2 (A := s.A) (n := s.n) (c := s.c) (lnV x) hA (ln_get hx) ?_
    refine alloc_as tok H2 lnZC rfl rfl rfl fun o w3 H3 => ?_
    refine store_as tok H3 (lnC x) rfl rfl rfl rfl rfl fun w4 H4 => ?_
    refine load_rule tok H4 (v := .int .u32 x.k.loan) rfl ?_
    refine lookup_rule tok H4 (n := m) (k := x.k.loan) (v := .int .i64 ((lk x.k.loan (cntL (lnLoans (xs.take i)))).getD 0)) rfl rfl rfl (int_keys tok rfl) rfl (getVI _ _) ?_
    refine mapUpd_rule tok H4 (n := m) (k := x.k.loan) (v := (lk x.k.loan (cntL (lnLoans (xs.take i)))).getD 0 + 1) rfl (int_keys tok rfl) rfl (congrArg (Value.int .i64) ec) fun w5 H5 => ?_
    have H5 : Hp ⟨w, M, I⟩ [mapO m u32V iV (bump (cntL (lnLoans (xs.take i))) x.k.loan), blk l [.slice s.A s.n s.c, .map (some m1), .map (some m2)] 85, row 69 6 (.slice s.A s.n s.c) s.n (lnsC xs)] [] w5 := Hp.keep H5
    rw [← lnLoans_take hx] at H5
    exact Exists.intro (i + 1) (And.intro ⟨congrArg (Value.int .i64) ew, trivial⟩ (And.intro (by show s.n - (i + 1) < s.n - i; omega) ⟨by show i + 1 ≤ s.n; omega, H5⟩))
  · have et : xs.take i = xs := List.take_of_length_le (by omega)
    rw [et] at H2
    refine call_rule H2 (fun M I _ h => keysU m (cntL (lnLoans xs)) _ M I h) fun b w3 _ H3 => ?_
    refine call_rule H3 (fun M I _ h => sortedU b m (cntL (lnLoans xs)) (Nat.le_trans (cnt_few hlo) (by decide)) _ M I h) fun a w4 ha H4 => ?_
    exact Exists.intro a (And.intro rfl (And.intro ha (Hp.keep H4)))
theorem loansX (l : Nat) (d : Led) (hx : d.lns.length ≤ 1000) (hlo : ∀ x, x ∈ lnLoans d.lns → 0 ≤ x ∧ x < 5) (w : World) (M I : BS) (H : Hp ⟨w, M, I⟩ [ledO l d] [] w) :
    Ctr Tryz.prog 20 [.pointer (some ⟨l, 0, none⟩)] w M I (fun a : SV × List Int => .slice a.1.A a.1.n a.1.c) (fun a => a.2.Perm ((cntL (lnLoans d.lns)).map (·.1)) ∧ srtU a.2 ∧ a.1.n = a.2.length)
      (fun a => [row 23 1 (.slice a.1.A a.1.n a.1.c) a.1.n (u32sC a.2), ledO l d]) (fun _ => []) := by
  obtain ⟨m1, m2, s, hs, H1⟩ := ledOpen (l := l) (d := d) H
  refine (Ctr.frame H1 fun M I _ h => loansL l m1 m2 s d.lns hx hs hlo _ M I h).imp fun a w' ha h => ?_
  exact ⟨a, rfl, ha, Hp.keep (ledClose (l := l) (m1 := m1) (m2 := m2) (s := s) (d := d) h hs)⟩
theorem live_loan {d : Led} (hI : Inv d) {q : Key × Int} (hq : q ∈ d.live) : ∃ x, x ∈ d.lns ∧ x.k = q.1 := by
  have h2 := lk_of_mem hI.nd (k := q.1) (v := q.2) hq
  have h3 := hI.live q.1
  rw [h2] at h3
  split at h3
  · rename_i h0
    obtain ⟨x, hx, hxk, _⟩ := hI.at_ q.1 h0
    exact ⟨x, List.mem_of_getElem? hx, hxk⟩
  · cases h3
end Go.Proofs.YtfemfomgmopibaaGreatDoor
set_option linter.unusedVariables false
set_option linter.unusedSimpArgs false
namespace Go.Wk
open Go.RowKit Go.Lib Go.Sort
section
variable {B : Base} {S : List Asn} {F : List Fact} {w w' : World}
/-- Old blocks asx they were: what is owned and known stays. -/
theorem Hp.below (H : Hp B S F w) (h : Below w.heap.size w w') : Hp B S F w' := by
  obtain ⟨h1, h2, h3, h4, h5, I, fp, hs, ha, r1, r2, r3, r4, r5⟩ := H
  refine ⟨h.os.trans h1, h.tape.trans h2, ⟨h.output.trans h3.1, fun q => False.elim q⟩, Nat.le_trans h4 h.size, fun b hb hM => (h.block b (Nat.lt_of_lt_of_le hb h4)).trans (h5 b hb hM), I, fp, hs.keep (fun b hb => h.block b (hs.lt b hb)) r5, fun f hf => f.mono (ha f hf) (fun _ hb => hb) fun b hb => h.block b (r3 b hb), r1, r2, fun b hb => Nat.lt_of_lt_of_le (r3 b hb) h.size, r4, r5⟩
theorem below_grow (w : World) (n : Nat) (os : Array Obj) : Below w.heap.size w (grow (w.drewN n) os) := by
  refine ⟨rfl, rfl, rfl, ?_, fun k hk => ?_⟩
  · show w.heap.size ≤ (w.heap ++ os).size
    simp
  · show (w.heap ++ os)[k]? = _
    rw [Array.getElem?_append_left hk]
/-- The same where new blocks are told. -/
theorem Ctr.of_calls {P : Program} {g : Nat} {args : List Value} {M I : BS} {α : Type} {V : α → Value} {φ : α → Prop} {A : α → List Asn} {G : α → List Fact} (hc : ∀ asx w, (callFunc g asx).run P w = .ok (.enter g asx) w)
    (h : Calls P g args.toArray w fun e w' => ∃ a, e = .returned (V a) ∧ φ a ∧ Hp ⟨w, M, I⟩ (A a) (G a) w') : Ctr P g args w M I V φ A G := by
  refine ⟨hc, h.mono ?_⟩
  rintro e w' ⟨a, rfl, hφ, hb⟩
  exact ⟨V a, rfl, a, rfl, hφ, hb⟩
end
/-- A LOOP with several ways out by one jump: what holds at each of them. -/
theorem loop_out {P : Program} {T : Tab} (hT : T.Ok P) {n : Nat} {body : Code} {Q : Exit → Env → World → Prop} {e : Env} {w : World} {σ τ : Type} (m id : Nat) (L : σ → List (Nat × Value)) (W : σ → World → Prop) (μ : σ → Nat) (s0 : σ) (L2 : τ → List (Nat × Value)) (W2 : τ → World → Prop)
    (hm : wmask body = m) (hk : codeOk n body = true) (h0 : Has e (L s0)) (hw : W s0 w)
    (round : ∀ s j w, W s w → ev P T n body (fun x e' w' => match x with
      | .normal => ∃ s', Has e' (L s') ∧ μ s' < μ s ∧ W s' w'
      | .exit i => bif Nat.beq i id then (∃ t, Has e' (L2 t) ∧ W2 t w') else Q (.exit i) e' w'
      | x => Q x e' w') (sets (havoc m e j) (L s)) w)
    (out : ∀ t j w, W2 t w → Q (.exit id) (sets (havoc m e j) (L2 t)) w) : CodeK P n (.loop body) Q e w := by
  refine ⟨fun r ds a hf => ?_⟩
  refine wpIn_loop_ghost (fun k a w => ∃ s e', μ s = k ∧ Fits ds n e' a ∧ Off m e e' ∧ Has e' (L s) ∧ W s w) (μ s0) ⟨s0, e, rfl, hf, Off.refl _ _, h0, hw⟩ ?_
  rintro k a w ⟨s, e', rfl, hf', ho, hh, hw'⟩
  have hr := ev_frame body (round s e' w hw')
  rw [← sets_of ho hh] at hr
  refine wpIn_mono (ev_sound hT body _ e' w a hk hf' hr) ?_
  rintro x a1 w1 ⟨e1, hf1, hq, ho1⟩
  have ho1' : Off m e e1 := ho.trans (hm ▸ ho1)
  cases x with
  | normal =>
    obtain ⟨s', hh', hlt, hw1⟩ := hq
    exact ⟨μ s', hlt, s', e1, rfl, hf1, ho1', hh', hw1⟩
  | exit i =>
    refine ⟨e1, hf1, ?_, by show Off (wmask body) e e1; rw [hm]; exact ho1'⟩
    cases hb : Nat.beq i id with
    | true =>
      have hi := Nat.eq_of_beq_eq_true hb
      subst hi
      simp only [hb, cond_true] at hq
      obtain ⟨t, ht, hw2⟩ := hq
      have := out t e1 w1 hw2
      rw [← sets_of ho1' ht] at this
      exact this
    | false => simp only [hb, cond_false] at hq; exact hq
  | _ => exact ⟨e1, hf1, hq, by show Off (wmask body) e e1; rw [hm]; exact ho1'⟩
end Go.Wk
set_option linter.unusedVariables false
set_option linter.unusedSimpArgs false
namespace Go.Wk
section
variable {α : Type} {f : α → List Value} {sz : Nat}
def flatL (f : α → List Value) : List α → List Value
  | [] => []
  | x :: r => f x ++ flatL f r
theorem flatL_len (h : ∀ x, (f x).length = sz) : ∀ xs : List α, (flatL f xs).length = xs.length * sz
  | [] => by simp [flatL]
  | x :: r => by rw [flatL, List.length_append, h, flatL_len h r, List.length_cons, Nat.add_mul, Nat.one_mul, Nat.add_comm]
theorem flatL_app : ∀ a b : List α, flatL f (a ++ b) = flatL f a ++ flatL f b
  | [], _ => rfl
  | x :: a, b => by simp [flatL, flatL_app a b]
theorem flatL_snoc (a : List α) (x : α) : flatL f (a ++ [x]) = flatL f a ++ f x := by rw [flatL_app]; simp [flatL]
theorem flatL_at (h : ∀ x, (f x).length = sz) : ∀ {xs : List α} {i : Nat} {x : α}, xs[i]? = some x → ((flatL f xs).drop (i * sz)).take sz = f x
  | [], i, x, e => by simp at e
  | y :: r, 0, x, e => by
    simp only [List.getElem?_cons_zero, Option.some.injEq] at e
    subst e
    rw [Nat.zero_mul, List.drop_zero, flatL, ← h y, List.take_left]
  | y :: r, i + 1, x, e => by
    rw [flatL, Nat.add_mul, Nat.one_mul, Nat.add_comm (i * sz), ← List.drop_drop, ← h y, List.drop_left, h y]
    exact flatL_at h (by simpa using e)
end
section
variable {B : Base} {S S' : List Asn} {F : List Fact} {w : World}
end
end Go.Wk
