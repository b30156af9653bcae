/- Operators on whole numbers that ask for a condition: rest, quotient, shift, bits. -/
import Derived.Test.YtjlfjjgjghdokaaGreatDoorLy4
import Derived.Laws.Externs
import Derived.Stop.Asserts
set_option linter.unusedVariables false
namespace Go.Wk
section
variable {P : Program} {T : Tab} {K : Value → World → Prop} {w : World} {B : Base} {S S' : List Asn} {F : List Fact}
theorem rem_rule {t : TypeId} {ox oy : Operand} {k : IntKind} {x y : Int} (hy : y ≠ 0) (h : K (.int k (x.tmod y)) w) : BinK P K w .rem t ox oy (.int k x) (.int k y) := by
  refine BinK.of ?_ h
  simp [binS, eqGuard, binOp, Op.intDiv, hy]
theorem rem_as {t : TypeId} {ox oy : Operand} {k : IntKind} {x y : Int} (v : Int) (hy : y ≠ 0) (hv : x.tmod y = v) (h : K (.int k v) w) : BinK P K w .rem t ox oy (.int k x) (.int k y) := by
  subst hv; exact rem_rule hy h
theorem quo_rule {t : TypeId} {ox oy : Operand} {k : IntKind} {x y : Int} (hy : y ≠ 0) (h : K (.int k (k.wrap (x.tdiv y))) w) : BinK P K w .quo t ox oy (.int k x) (.int k y) := by
  refine BinK.of ?_ h
  simp [binS, eqGuard, binOp, Op.intDiv, hy]
theorem shr_rule {t : TypeId} {ox oy : Operand} {k k' : IntKind} {x y : Int} (hy : 0 ≤ y) (h : K (.int k (x.fdiv (2 ^ min y.toNat k.bits))) w) : BinK P K w .shr t ox oy (.int k x) (.int k' y) := by
  refine BinK.of ?_ h
  simp [binS, eqGuard, binOp, Op.shift, Int.not_lt.2 hy]
theorem quo_as {t : TypeId} {ox oy : Operand} {k : IntKind} {x y : Int} (v : Int) (hy : y ≠ 0) (hv : k.wrap (x.tdiv y) = v) (h : K (.int k v) w) : BinK P K w .quo t ox oy (.int k x) (.int k y) := by
  subst hv; exact quo_rule hy h
theorem shr_as {t : TypeId} {ox oy : Operand} {k k' : IntKind} {x y : Int} (v : Int) (hy : 0 ≤ y) (hv : x.fdiv (2 ^ min y.toNat k.bits) = v) (h : K (.int k v) w) : BinK P K w .shr t ox oy (.int k x) (.int k' y) := by
  subst hv; exact shr_rule hy h
theorem shl_rule {t : TypeId} {ox oy : Operand} {k k' : IntKind} {x y : Int} (hy : 0 ≤ y) (h : K (.int k (k.wrap (x * 2 ^ min y.toNat k.bits))) w) : BinK P K w .shl t ox oy (.int k x) (.int k' y) := by
  refine BinK.of ?_ h
  simp [binS, eqGuard, binOp, Op.shift, Int.not_lt.2 hy]
theorem and_rule {t : TypeId} {ox oy : Operand} {k : IntKind} {x y : Int} (h : K (.int k (k.wrap (BitVec.ofInt k.bits x &&& BitVec.ofInt k.bits y).toNat)) w) : BinK P K w .and t ox oy (.int k x) (.int k y) := by
  refine BinK.of ?_ h
  simp [binS, eqGuard, binOp, Op.intBits]
theorem or_rule {t : TypeId} {ox oy : Operand} {k : IntKind} {x y : Int} (h : K (.int k (k.wrap (BitVec.ofInt k.bits x ||| BitVec.ofInt k.bits y).toNat)) w) : BinK P K w .or t ox oy (.int k x) (.int k y) := by
  refine BinK.of ?_ h
  simp [binS, eqGuard, binOp, Op.intBits]
/-- A row that isn't empty lies in a block. -/
theorem Hp.rowSome (H : Hp B S F w) {A : Option Addr} {n c e sz : Nat} {cs : List Value} [hp : TakeR S (.slice A n c) e sz n cs S'] (hn : n ≠ 0) : ∃ b, A = some ⟨b, 0, none⟩ := by
  obtain ⟨fa, ha⟩ := H.own (A := row e sz (.slice A n c) n cs) (hp := ⟨hp.perm⟩)
  obtain ⟨A1, c1, e1, _, _, hb⟩ := row_shape ha
  injection e1 with e1 e2 e3
  subst e1
  exact hb hn
end
end Go.Wk
/- Calls of functions that the model itself answers; methods of interface values; package-level variables that nobody writes. -/
set_option linter.unusedVariables false
namespace Go.Wk
section
variable {P : Program} {T : Tab} {K : Value → World → Prop} {w : World} {B : Base} {S S' : List Asn} {F : List Fact}
theorem CallK_ext {g : Nat} {fn : Func} {e : Array Value → Sem Value} {args : List Value} {v : Value} {w' : World} (hf : P.funcs[g]? = some fn) (hname : (fn.name == "runtime.NumGoroutine") = false)
    (hb : fn.body.isNone = true) (hn : Extern.findNext fn = none) (he : Extern.find fn = some e) (hr : (e args.toArray).run P w = .ok v w') (k : K v w') : CallK P K w (.func (.func g) #[] #[]) args := by
  refine ⟨?_⟩
  have h := run_callFunc_extern hf hname hb hn he args.toArray w
  rw [hr] at h
  unfold NK
  simp only [Deferred.ofValue, invoke, Sem.run_bind, Sem.run_pure, Result.andThen_ok, Array.append_empty, Array.empty_append]
  rw [h]
  exact k
theorem InvokeK_ext {t : TypeId} {x r : Value} {m : String} {g : Nat} {fn : Func} {e : Array Value → Sem Value} {args : List Value} {v : Value} {w' : World} (hm : (Go.method (P.types.size + Made.depth) t x m).run P w = .ok (g, r) w) (hf : P.funcs[g]? = some fn) (hname : (fn.name == "runtime.NumGoroutine") = false)
    (hb : fn.body.isNone = true) (hn : Extern.findNext fn = none) (he : Extern.find fn = some e) (hr : (e (#[r] ++ args.toArray)).run P w = .ok v w') (k : K v w') : InvokeK P K w (.iface t x) m args := by
  refine ⟨?_⟩
  have h := run_callFunc_extern hf hname hb hn he (#[r] ++ args.toArray) w
  rw [hr] at h
  have ha : (#[Value.iface t x] ++ args.toArray).extract 1 (#[Value.iface t x] ++ args.toArray).size = args.toArray := by simp
  have hz : (#[Value.iface t x] ++ args.toArray)[0]? = some (.iface t x) := by simp
  have hp : (program).run P w = .ok P w := rfl
  unfold NK
  simp only [invoke, hz, ha, callMethod, Sem.run_bind, hp, Result.andThen_ok, hm]
  rw [h]
  exact k
theorem InvokeK_fn {t : TypeId} {x r : Value} {m : String} {g : Nat} {args : List Value} (hm : (Go.method (P.types.size + Made.depth) t x m).run P w = .ok (g, r) w) (h : Exe P g (r :: args) w K) : InvokeK P K w (.iface t x) m args := by
  refine ⟨?_⟩
  have ha : (#[Value.iface t x] ++ args.toArray).extract 1 (#[Value.iface t x] ++ args.toArray).size = args.toArray := by simp
  have hz : (#[Value.iface t x] ++ args.toArray)[0]? = some (.iface t x) := by simp
  have hp : (program).run P w = .ok P w := rfl
  have hc : #[r] ++ args.toArray = (r :: args).toArray := by simp
  unfold NK
  simp only [invoke, hz, ha, callMethod, Sem.run_bind, hp, Result.andThen_ok, hm, hc, h.1]
  exact h.2
/-- A package-level variable of one cell that nobody writes. -/
def Glob (g : Nat) (v : Value) : Fact where
  holds w I := I g ∧ w.cell? ⟨g, 0, none⟩ = some v
  mono := fun ⟨h1, h2⟩ hI hw => ⟨hI _ h1, by rw [← h2]; simp only [World.cell?, hw _ h1]⟩
theorem glob_rule (hT : T.Ok P) (H : Hp B S F w) {g : Nat} (v : Value) [hp : InF F (Glob g v)] {t : TypeId} {d : TD} (ht : T t = some d) (ha : isAggD d.desc = false) (k : K v w) : LoadK P K w t (.pointer (some ⟨g, 0, none⟩)) := by
  obtain ⟨I, h⟩ := H.fact (f := Glob g v)
  exact (LdV.one hT ht ha h.2).load k
/-- Nothing is said. -/
def ttF : Fact := ⟨fun _ _ => True, fun _ _ _ => trivial⟩
theorem Hp.addTt (H : Hp B S F w) : Hp B S (ttF :: F) w := H.facts fun I ha f hf => by
  rcases List.mem_cons.1 hf with rfl | hf
  · trivial
  · exact ha f hf
theorem AssertK.run {x : Value} {t a : TypeId} {ok : Bool} {v : Value} (h : (Instr.typeAssert x t a ok).run P w = .ok v w) (k : K v w) : AssertK P K w x t a ok := AssertK.of h k
end
end Go.Wk
/- Parts of a slice that reads; elements that are slices themselves. -/
set_option linter.unusedVariables false
namespace Go.Wk
section
variable {P : Program} {T : Tab} {K : Value → World → Prop} {w : World} {B : Base} {S S' : List Asn} {F : List Fact}
theorem or_as {t : TypeId} {ox oy : Operand} {k : IntKind} {x y : Int} (v : Int) (hv : k.wrap (BitVec.ofInt k.bits x ||| BitVec.ofInt k.bits y).toNat = v) (h : K (.int k v) w) : BinK P K w .or t ox oy (.int k x) (.int k y) := by
  subst hv; exact or_rule h
theorem shl_as {t : TypeId} {ox oy : Operand} {k k' : IntKind} {x y : Int} (v : Int) (hy : 0 ≤ y) (hv : k.wrap (x * 2 ^ min y.toNat k.bits) = v) (h : K (.int k v) w) : BinK P K w .shl t ox oy (.int k x) (.int k' y) := by
  subst hv; exact shl_rule hy h
/-- v[k:] of a slice that reads. -/
theorem slice_lo (hT : T.Ok P) (H : Hp B S F w) {A : Option Addr} {n c k : Nat} {t : TypeId} {α : Type} {r : Rp α} {xs : List α} {lo : Value} {kd : IntKind} {e : TypeId} {it : TypeInfo} [h2 : InSl F A n c r xs] {de : TD} (ht : T t = some ⟨.slice e, it⟩) (hte : T e = some de) (hlo : lo = .int kd k) (hk : k ≤ n) (hsz : de.info.size = r.sz)
    (kk : ∀ A', Hp B S (Sl r (.slice A' (n - k) (c - k)) (xs.drop k) :: F) w → K (.slice A' (n - k) (c - k)) w) : SliceK P K w t (.slice A n c) (some lo) none none := by
  subst hlo
  obtain ⟨hnx, hc, hc2⟩ := H.sll (A := A) (n := n) (c := c)
  have hel : P.underlying t = some (.slice (P.elem t)) := by unfold Program.elem; rw [(hT t _ ht).1]
  have he : P.elem t = e := by unfold Program.elem; rw [(hT t _ ht).1]
  have hs : (sizeOf (P.elem t)).run P w = .ok r.sz w := by rw [he, ← hsz]; exact run_szOf hT hte w
  refine SliceK.of (v := .slice (if c = k then A else A.map (·.add (k * r.sz))) (n - k) (c - k)) (w' := w) ?_ (kk _ (H.facts fun I ha f hf => ?_))
  · rw [run_sliceAt_slice w t _ _ _ _ hel, run_slice_l w t A n c hel kd k (by omega) (by omega), hs]
    simp only [Result.andThen_ok, sliced, Int.toNat_natCast]
  · rcases List.mem_cons.1 hf with rfl | hf
    · obtain ⟨A', c', e1, q1, q2, q3, q4⟩ := ha _ h2.mem
      injection e1 with e1 e2 e3
      subst e1 e3
      refine ⟨_, c - k, by rw [List.length_drop, ← hnx], by rw [List.length_drop]; omega, by omega, fun hA => ?_, fun i x hx => ?_⟩
      · split at hA
        · have := q3 hA; omega
        · cases A with
          | none => have := q3 rfl; omega
          | some a => cases hA
      · rw [List.getElem?_drop] at hx
        obtain ⟨b, o, rfl, hb, hat⟩ := q4 (k + i) x hx
        have hlt := (List.getElem?_eq_some_iff.1 hx).1
        rw [if_neg (by omega)]
        refine ⟨b, o + k * r.sz, by simp [add_plain], hb, ?_⟩
        rwa [Nat.add_mul, ← Nat.add_assoc] at hat
    · exact ha f hf
/-- Reading an element of one cell: what it says comes with it. -/
theorem ld1_rule (hT : T.Ok P) (H : Hp B S F w) {α : Type} {r : Rp α} {b o : Nat} {x : α} [hp : InPtr F b o r x] {t : TypeId} {d : TD} (v : r.π → Value) (ht : T t = some d) (ha : isAggD d.desc = false) (hc : ∀ p, r.cells x p = [v p])
    {N : r.π → List Fact} [hn : ∀ p, AppL (r.facts x p) F (N p)] (k : ∀ p, r.ok x p → Hp B S (N p) w → K (v p) w) : LoadK P K w t (.pointer (some ⟨b, o, none⟩)) := by
  obtain ⟨h2, h3, h4, h5, h6, I, fp, hs, hall, q⟩ := H
  obtain ⟨hb, p, hok, hcc, hf⟩ := hall _ hp.mem
  have hcell : w.cell? ⟨b, o, none⟩ = some (v p) := by
    have := hcc 0 (v p) (by rw [hc p]; rfl)
    simpa using this
  refine (LdV.one hT ht ha hcell).load (k p hok ⟨h2, h3, h4, h5, h6, I, fp, hs, fun f hf' => ?_, q⟩)
  rw [(hn p).eq] at hf'
  rcases List.mem_append.1 hf' with h | h
  · exact hf f h
  · exact hall f h
end
end Go.Wk
/- Maps whose keys are structs; entries that are struck. -/
set_option linter.unusedVariables false
set_option linter.unusedSimpArgs false
namespace Go.Wk
section
variable {P : Program} {T : Tab}
theorem leaf_chk (hT : T.Ok P) {t : TypeId} {x y : Value} {r : Bool} (h : leafEq (T t) x y = some r) (b : Bool) (d : Nat) (w : World) : (Instr.checkKey b (d + 1) t x).run P w = .ok () w := by
  unfold leafEq at h
  split at h
  all_goals first | (rename_i ht; simp only [Instr.checkKey, Sem.run_bind, run_und hT ht, Result.andThen_ok, Sem.run_pure]; done) | cases h
theorem forM_fields (hT : T.Ok P) {xs ys : Array Value} (b : Bool) (d : Nat) : ∀ {fs : List Field} {r : Bool}, fEq T xs ys fs = some r → ∀ w, (forIn fs PUnit.unit fun f _ => (if f.name ≠ "_" then do
        let x ← part f.type xs f.offset
        Instr.checkKey b (d + 1) f.type x
        pure (ForInStep.yield PUnit.unit)
      else pure (ForInStep.yield PUnit.unit) : Sem (ForInStep PUnit))).run P w = .ok PUnit.unit w
  | [], r, h, w => by simp
  | f :: fs, r, h, w => by
    unfold fEq at h
    cases hn : f.name == "_" with
    | true => rw [hn] at h; cases h
    | false =>
      rw [hn] at h
      simp only [cond_false] at h
      cases ha : partV (T f.type) xs f.offset with
      | none => rw [ha] at h; cases h
      | some a =>
        cases hb : partV (T f.type) ys f.offset with
        | none => rw [ha, hb] at h; cases h
        | some b' =>
          rw [ha, hb] at h
          simp only at h
          cases hl : leafEq (T f.type) a b' with
          | none => rw [hl] at h; cases h
          | some r1 =>
            cases hs : fEq T xs ys fs with
            | none => rw [hl, hs] at h; cases h
            | some s =>
              have ih := forM_fields hT (xs := xs) (ys := ys) b d hs w
              have hne : f.name ≠ "_" := by simpa using hn
              simp only [List.forIn_cons, Sem.run_bind, hne, ne_eq, not_false_eq_true, if_true, run_part hT ha, Result.andThen_ok, leaf_chk hT hl, Sem.run_pure]
              exact ih
theorem struct_keys (hT : T.Ok P) {kt : TypeId} {fs : Array Field} {i : TypeInfo} {κ : Type} [DecidableEq κ] {kf : κ → Value} (xs : κ → Array Value) (hkf : ∀ k, kf k = .agg (xs k)) (ht : T kt = some ⟨.struct fs, i⟩) (hs : P.stoodInHeld kt = false)
    (he : ∀ a b, ∃ r, fEq T (xs a) (xs b) fs.toList = some r ∧ (r = true ↔ a = b)) (hb : ∀ k, Instr.sameBits 10000 (.agg (xs k)) (.agg (xs k)) = true) : Keys P kt kf where
  chk := fun b k w => by
    obtain ⟨r, hr, _⟩ := he k k
    rw [hkf]
    show (Instr.checkKey b (9998 + 1 + 1) kt (.agg (xs k))).run P w = _
    generalize 9998 = d
    rw [Instr.checkKey]
    simp only [Sem.run_bind, run_und hT ht, Result.andThen_ok]
    have := forM_fields hT (xs := xs k) (ys := xs k) b d hr w
    rw [← Array.forIn_toList]
    have e : ∀ s : Sem PUnit, s.run P w = .ok PUnit.unit w → ((s.run P w).andThen fun _ w' => Sem.run P (pure ()) w') = .ok () w := fun s h => by rw [h]; rfl
    exact e _ this
  find := fun {ν} vf k l es w h => by
    have hf : P.fieldsOf kt = fs := by unfold Program.fieldsOf; rw [(hT kt _ ht).1]
    have eqr : ∀ a b : κ, (Op.equal kt (kf a) (kf b)).run P w = .ok (decide (a = b)) w := fun a b => by
      obtain ⟨r, hr, hr2⟩ := he a b
      have := run_equalIn_struct (P := P) w 9999 kt (xs a) (xs b) (by rw [hf]; exact (hT kt _ ht).1) hs
      rw [hf, fEq_sound hT (d := 9998) hr] at this
      rw [hkf, hkf]
      have hd : decide (a = b) = r := by
        rw [Bool.eq_iff_iff, decide_eq_true_eq]; exact hr2.symm
      rw [hd]
      exact this
    have key : ∀ (l : List (κ × ν)) (es : List MapEntry) (i : Nat), es.map (fun e => (e.key, e.val)) = l.map (fun p => (kf p.1, vf p.2)) → (Instr.findAsking kt (kf k) es i).run P w = .ok ((lkI k l i).map fun q => (q.1, vf q.2)) w := by
      intro l
      induction l with
      | nil => intro es i h; cases es with
        | nil => rfl
        | cons _ _ => cases h
      | cons p l ih =>
        intro es i h
        cases es with
        | nil => cases h
        | cons e es =>
          simp only [List.map_cons, List.cons.injEq, Prod.mk.injEq] at h
          obtain ⟨⟨h1, h2⟩, h3⟩ := h
          unfold Instr.findAsking lkI
          simp only [Sem.run_bind, h1, eqr, Result.andThen_ok]
          by_cases hk : k = p.1
          · subst hk
            simp [h2]
          · have hk' : ¬ p.1 = k := fun h => hk h.symm
            simp only [hk, decide_false, Bool.false_eq_true, if_false, hk']
            exact ih es (i + 1) h3
    have now : ∀ (es : List MapEntry) (i : Nat), Instr.findNow (.struct fs) (kf k) es i = none ∨ es = [] := fun es i => by
      cases es with
      | nil => exact .inr rfl
      | cons e es => left; unfold Instr.findNow; rw [hkf]; rfl
    simp only [Instr.findKey, Sem.run_bind, run_und hT ht, Result.andThen_ok]
    rcases now es 0 with hn | rfl
    · rw [hn]; exact key l es 0 h
    · cases l with
      | nil => rfl
      | cons _ _ => cases h
  same := fun k => by rw [hkf]; exact hb k
end
theorem map_erase {α β : Type} (f : α → β) : ∀ (l : List α) (i : Nat), (l.eraseIdx i).map f = (l.map f).eraseIdx i
  | [], i => by simp
  | x :: l, 0 => by simp
  | x :: l, i + 1 => by simp [map_erase f l i]
/-- An entry struck. -/
def delL {κ ν : Type} [DecidableEq κ] (k : κ) : List (κ × ν) → List (κ × ν)
  | [] => []
  | p :: l => if p.1 = k then l else p :: delL k l
theorem delL_none {κ ν : Type} [DecidableEq κ] (k : κ) : ∀ (l : List (κ × ν)) (i : Nat), lkI k l i = none → delL k l = l
  | [], _, _ => rfl
  | p :: l, i, h => by
    unfold lkI at h
    unfold delL
    split at h
    · cases h
    · rename_i hp
      rw [if_neg hp, delL_none k l _ h]
theorem delL_some {κ ν : Type} [DecidableEq κ] (k : κ) : ∀ (l : List (κ × ν)) (i j : Nat) (u : ν), lkI k l i = some (j, u) → delL k l = l.eraseIdx (j - i)
  | [], _, _, _, h => by cases h
  | p :: l, i, j, u, h => by
    have hg := lkI_ge k (p :: l) i j u h
    unfold lkI at h
    unfold delL
    split at h
    · rename_i hp
      simp only [Option.some.injEq, Prod.mk.injEq] at h
      rw [if_pos hp, ← h.1, Nat.sub_self]; rfl
    · rename_i hp
      have hg2 := lkI_ge k l (i + 1) j u h
      rw [if_neg hp, delL_some k l _ _ _ h, show j - i = (j - (i + 1)) + 1 by omega]
      rfl
section
variable {P : Program} {T : Tab} {K : Value → World → Prop} {w : World} {B : Base} {S S' : List Asn} {F : List Fact} {κ ν : Type} [DecidableEq κ] {kf : κ → Value} {vf : ν → Value} {n : Nat} {l : List (κ × ν)}
theorem delete_rule (hT : T.Ok P) (H : Hp B S F w) [hp : TakeM S n kf vf l S'] {t t2 ty kt et : TypeId} {i : TypeInfo} {cst : List Bool} {k : κ} {x : Value} (ht : T t = some ⟨.map kt et, i⟩) (hk : Keys P kt kf) (hx : x = kf k)
    (kk : ∀ w', Hp B (mapO n kf vf (delL k l) :: S') F w' → K (.tuple #[]) w') : BuiltinK P K w .delete [t, t2] ty cst [.map (some n), x] := by
  subst hx
  have hp' : Take S (mapO n kf vf l) S' := ⟨hp.perm⟩
  obtain ⟨fa, _, es, clock, h1, h2, h3, h4⟩ := H.own (A := mapO n kf vf l)
  have hg : (getObj n).run P w = .ok (.map es clock) w := by simp [getObj, Sem.run, h1]
  have hset : ∀ es' c', (setObj n (.map es' c')).run P w = .ok () (World.setBlk w n (.map es' c')) := fun es' c' => by
    simp [setObj, Sem.run, h1, World.setBlk]
  have hlen : es.toList.length = l.length := by simpa using congrArg List.length h2
  have step : ∀ es' c', es'.toList.map (fun e => (e.key, e.val)) = (delL k l).map (fun p => (kf p.1, vf p.2)) → (∀ e ∈ es'.toList, e.born < c') → (es'.toList.map MapEntry.born).Nodup → Hp B (mapO n kf vf (delL k l) :: S') F (World.setBlk w n (.map es' c')) := fun es' c' e1 e2 e3 =>
    H.step (A := mapO n kf vf l) rfl rfl rfl (by simp [World.setBlk]) fun fa ha => ⟨fun b _ hb => heap_setBlk_ne w _ fun e => hb ((ha.1 b).2 e), fa, ⟨ha.1, es', c', heap_setBlk_at w h1, e1, e2, e3⟩, fun b hb => .inl hb⟩
  cases hl : lkI k l 0 with
  | none =>
    refine BuiltinK.of (v := .tuple #[]) (w' := World.setBlk w n (.map es clock)) ?_ (kk _ (step _ _ ?_ h3 h4))
    · simp only [builtin, Builtin.delete_, Sem.run_bind]
      simp [run_und hT ht, hg, hk.chk, hk.find vf k l es.toList w h2, hl, hset]
    · rw [delL_none k l 0 hl]; exact h2
  | some q =>
    obtain ⟨j, u⟩ := q
    have hj := lkI_ge k l 0 j u hl
    have he : (es.eraseIdxIfInBounds j).toList = es.toList.eraseIdx j := by simp
    refine BuiltinK.of (v := .tuple #[]) (w' := World.setBlk w n (.map (es.eraseIdxIfInBounds j) clock)) ?_ (kk _ (step _ _ ?_ ?_ ?_))
    · simp only [builtin, Builtin.delete_, Sem.run_bind]
      simp [run_und hT ht, hg, hk.chk, hk.find vf k l es.toList w h2, hl, hset]
    · rw [delL_some k l 0 j u hl, Nat.sub_zero, he, map_erase, h2, map_erase]
    · intro e hm
      rw [he] at hm
      exact h3 e (List.mem_of_mem_eraseIdx hm)
    · rw [he, map_erase]
      exact h4.sublist (List.eraseIdx_sublist _ _)
end
end Go.Wk
