/- Maps of the call's own: entries in the order in which they came; ranging in whatever order. -/
import Derived.Test.YtenpgmnknmnofaaDoorWkDraw
import Derived.Maps.RangeRun
set_option linter.unusedVariables false
set_option linter.unusedSimpArgs false
namespace Go.Wk
open Go.ChangeMaps (setBlock)

section
variable {κ ν : Type} [DecidableEq κ]
def lkI (k : κ) : List (κ × ν) → Nat → Option (Nat × ν)
  | [], _ => none
  | p :: l, i => if p.1 = k then some (i, p.2) else lkI k l (i + 1)
def lk (k : κ) : List (κ × ν) → Option ν
  | [] => none
  | p :: l => if p.1 = k then some p.2 else lk k l
def putL (k : κ) (v : ν) : List (κ × ν) → List (κ × ν)
  | [] => [(k, v)]
  | p :: l => if p.1 = k then (k, v) :: l else p :: putL k v l
theorem lkI_lk (k : κ) : ∀ (l : List (κ × ν)) (i : Nat), (lkI k l i).map (·.2) = lk k l
  | [], _ => rfl
  | p :: l, i => by
    unfold lkI lk
    split
    · rfl
    · exact lkI_lk k l (i + 1)
theorem lkI_ge (k : κ) : ∀ (l : List (κ × ν)) (i j : Nat) (v : ν), lkI k l i = some (j, v) → i ≤ j ∧ j < i + l.length
  | [], _, _, _, h => by cases h
  | p :: l, i, j, v, h => by
    unfold lkI at h
    split at h
    · simp only [Option.some.injEq, Prod.mk.injEq] at h; simp only [List.length_cons]; omega
    · have := lkI_ge k l _ _ _ h; simp only [List.length_cons]; omega
theorem putL_none (k : κ) (v : ν) : ∀ (l : List (κ × ν)) (i : Nat), lkI k l i = none → putL k v l = l ++ [(k, v)]
  | [], _, _ => rfl
  | p :: l, i, h => by
    unfold lkI at h
    unfold putL
    split at h
    · cases h
    · rename_i hp
      rw [if_neg hp, putL_none k v l _ h]; rfl
theorem putL_some (k : κ) (v : ν) : ∀ (l : List (κ × ν)) (i j : Nat) (u : ν), lkI k l i = some (j, u) → putL k v l = l.set (j - i) (k, v)
  | [], _, _, _, h => by cases h
  | p :: l, i, j, u, h => by
    have hg := lkI_ge k (p :: l) i j u h
    unfold lkI at h
    unfold putL
    split at h
    · rename_i hp
      simp only [Option.some.injEq, Prod.mk.injEq] at h
      rw [if_pos hp, ← h.1, Nat.sub_self]; rfl
    · rename_i hp
      have hg2 := lkI_ge k l (i + 1) j u h
      rw [if_neg hp, putL_some k v l _ _ _ h]
      rw [show j - i = (j - (i + 1)) + 1 by omega]
      rfl
end
/-- What a type of keys has to offer. -/
structure Keys (P : Program) (kt : TypeId) {κ : Type} [DecidableEq κ] (kf : κ → Value) : Prop where
  chk : ∀ b k w, (Instr.checkKey b 10000 kt (kf k)).run P w = .ok () w
  find : ∀ {ν : Type} (vf : ν → Value) (k : κ) (l : List (κ × ν)) (es : List MapEntry) w, es.map (fun e => (e.key, e.val)) = l.map (fun p => (kf p.1, vf p.2)) → (Instr.findKey kt (kf k) es).run P w = .ok ((lkI k l 0).map fun q => (q.1, vf q.2)) w
  same : ∀ k, Instr.sameBits 10000 (kf k) (kf k) = true
theorem int_keys {P : Program} {T : Tab} (hT : T.Ok P) {kt : TypeId} {q : IntKind} {i : TypeInfo} (ht : T kt = some ⟨.int q, i⟩) : Keys P kt (fun n : Int => .int q n) where
  chk := fun b k w => by
    show (Instr.checkKey b (9999 + 1) kt (.int q k)).run P w = _
    generalize 9999 = d
    simp only [Instr.checkKey, Sem.run_bind, run_und hT ht, Result.andThen_ok, Sem.run_pure]
  find := fun {ν} vf k l es w h => by
    have key : ∀ (l : List (Int × ν)) (es : List MapEntry) (i : Nat), es.map (fun e => (e.key, e.val)) = l.map (fun p => (Value.int q p.1, vf p.2)) → Instr.findNow (.int q) (.int q k) es i = some ((lkI k l i).map fun q => (q.1, vf q.2)) := by
      intro l
      induction l with
      | nil => intro es i h; cases es with
        | nil => rfl
        | cons _ _ => cases h
      | cons p l ih =>
        intro es i h
        cases es with
        | nil => cases h
        | cons e es =>
          simp only [List.map_cons, List.cons.injEq, Prod.mk.injEq] at h
          obtain ⟨⟨h1, h2⟩, h3⟩ := h
          unfold Instr.findNow lkI
          simp only [h1, Instr.sameNow, if_true]
          by_cases hk : p.1 = k
          · rw [if_pos hk]; simp [hk, h2]
          · rw [if_neg hk]
            have : (k == p.1) = false := by simpa using fun h => hk h.symm
            rw [this]
            exact ih es (i + 1) h3
    simp only [Instr.findKey, Sem.run_bind, run_und hT ht, Result.andThen_ok, key l es 0 h, Sem.run_pure]
  same := fun k => by simp [Instr.sameBits]
/-- A map of the call's own. -/
def mapO (n : Nat) {κ ν : Type} (kf : κ → Value) (vf : ν → Value) (l : List (κ × ν)) : Asn where
  at_ w fp := (∀ b, fp b ↔ b = n) ∧ ∃ es clock, w.heap[n]? = some (.map es clock) ∧ es.toList.map (fun e => (e.key, e.val)) = l.map (fun p => (kf p.1, vf p.2)) ∧ (∀ e ∈ es.toList, e.born < clock) ∧ (es.toList.map MapEntry.born).Nodup
  loc := fun h k => by
    obtain ⟨h1, es, clock, h2, r⟩ := h
    exact ⟨h1, es, clock, by rw [k n ((h1 n).2 rfl)]; exact h2, r⟩
  lt := fun ⟨h1, es, clock, h2, _⟩ hb => by rw [(h1 _).1 hb]; exact (Array.getElem?_eq_some_iff.1 h2).1
class TakeM (S : List Asn) (n : Nat) {κ ν : outParam Type} (kf : outParam (κ → Value)) (vf : outParam (ν → Value)) (l : outParam (List (κ × ν))) (S' : outParam (List Asn)) : Prop where
  perm : S.Perm (mapO n kf vf l :: S')
instance (priority := 2000) TakeM.here (n : Nat) {κ ν : Type} (kf : κ → Value) (vf : ν → Value) (l : List (κ × ν)) (S : List Asn) : TakeM (mapO n kf vf l :: S) n kf vf l S := ⟨.refl _⟩
instance (priority := 1000) TakeM.there (n : Nat) {κ ν : Type} (kf : κ → Value) (vf : ν → Value) (l : List (κ × ν)) (b : Asn) (S S' : List Asn) [h : TakeM S n kf vf l S'] : TakeM (b :: S) n kf vf l (b :: S') := ⟨(h.perm.cons b).trans (.swap _ b S')⟩
section
variable {P : Program} {T : Tab} {K : Value → World → Prop} {w : World} {B : Base} {S S' : List Asn} {F : List Fact} {κ ν : Type}
theorem makeMap_rule (H : Hp B S F w) (kf : κ → Value) (vf : ν → Value) {t : TypeId} (k : ∀ n w', Hp B (mapO n kf vf [] :: S) F w' → K (.map (some n)) w') : MakeMapK P K w t none := by
  refine MakeMapK.of (w' := w.alloc (.map #[] 0)) (v := .map (some w.heap.size)) (by simp [Instr.makeMap]) (k _ _ ?_)
  have h := H.alloc (.map #[] 0)
  have hp : Take (blkO w.heap.size (.map #[] 0) :: S) (blkO w.heap.size (.map #[] 0)) S := ⟨.refl _⟩
  refine h.step (A := blkO w.heap.size (.map #[] 0)) rfl rfl rfl (Nat.le_refl _) fun fa ha => ⟨fun _ _ _ => rfl, fa, ⟨ha.1, #[], 0, ha.2, rfl, by simp, by simp⟩, fun b hb => .inl hb⟩
variable [DecidableEq κ] {kf : κ → Value} {vf : ν → Value} {n : Nat} {l : List (κ × ν)}
theorem lookup_rule (hT : T.Ok P) (H : Hp B S F w) [hp : TakeM S n kf vf l S'] {t kt et : TypeId} {i : TypeInfo} {de : TD} {z v : Value} {k : κ} {x : Value} (ht : T t = some ⟨.map kt et, i⟩) (he : T et = some de) (hz : de.info.zero = some z)
    (hk : Keys P kt kf) (hx : x = kf k) (hv : v = ((lk k l).map vf).getD z) (kk : K v w) : LookupK P K w t (.map (some n)) x false := by
  subst hx hv
  obtain ⟨fa, _, es, clock, h1, h2, _⟩ := H.own (A := mapO n kf vf l) (hp := ⟨hp.perm⟩)
  refine LookupK.of ?_ kk
  have hg : ∀ w', w'.heap[n]? = some (.map es clock) → (getObj n).run P w' = .ok (.map es clock) w' := fun w' h => by simp [getObj, Sem.run, h]
  simp only [Instr.lookup, Sem.run_bind, run_und hT ht, Result.andThen_ok, hg w h1, Sem.run_pure, hk.chk, hk.find vf k l es.toList w h2, ← lkI_lk k l 0]
  cases lkI k l 0 with
  | none => simp [zero_rule hT he hz]
  | some q => simp
theorem lookup_ok_rule (hT : T.Ok P) (H : Hp B S F w) [hp : TakeM S n kf vf l S'] {t kt et : TypeId} {i : TypeInfo} {de : TD} {z v : Value} {k : κ} {x : Value} (ht : T t = some ⟨.map kt et, i⟩) (he : T et = some de) (hz : de.info.zero = some z)
    (hk : Keys P kt kf) (hx : x = kf k) (hv : v = .tuple #[((lk k l).map vf).getD z, .bool (lk k l).isSome]) (kk : K v w) : LookupK P K w t (.map (some n)) x true := by
  subst hx hv
  obtain ⟨fa, _, es, clock, h1, h2, _⟩ := H.own (A := mapO n kf vf l) (hp := ⟨hp.perm⟩)
  refine LookupK.of ?_ kk
  have hg : ∀ w', w'.heap[n]? = some (.map es clock) → (getObj n).run P w' = .ok (.map es clock) w' := fun w' h => by simp [getObj, Sem.run, h]
  simp only [Instr.lookup, Sem.run_bind, run_und hT ht, Result.andThen_ok, hg w h1, Sem.run_pure, hk.chk, hk.find vf k l es.toList w h2, ← lkI_lk k l 0]
  cases lkI k l 0 with
  | none => simp [zero_rule hT he hz]
  | some q => simp
theorem mapUpd_rule (hT : T.Ok P) (H : Hp B S F w) [hp : TakeM S n kf vf l S'] {t kt et : TypeId} {i : TypeInfo} {k : κ} {v : ν} {x y : Value} (ht : T t = some ⟨.map kt et, i⟩)
    (hk : Keys P kt kf) (hx : x = kf k) (hy : y = vf v) (kk : ∀ w', Hp B (mapO n kf vf (putL k v l) :: S') F w' → K undef w') : MapUpdK P K w t (.map (some n)) x y := by
  subst hx hy
  have hp' : Take S (mapO n kf vf l) S' := ⟨hp.perm⟩
  obtain ⟨fa, _, es, clock, h1, h2, h3, h4⟩ := H.own (A := mapO n kf vf l)
  have hg : (getObj n).run P w = .ok (.map es clock) w := by simp [getObj, Sem.run, h1]
  have hset : ∀ es' c', (setObj n (.map es' c')).run P w = .ok () (World.setBlk w n (.map es' c')) := fun es' c' => by
    simp [setObj, Sem.run, h1, World.setBlk]
  have hlen : es.toList.length = l.length := by simpa using congrArg List.length h2
  have step : ∀ es' c', es'.toList.map (fun e => (e.key, e.val)) = (putL k v l).map (fun p => (kf p.1, vf p.2)) → (∀ e ∈ es'.toList, e.born < c') → (es'.toList.map MapEntry.born).Nodup → Hp B (mapO n kf vf (putL k v l) :: S') F (World.setBlk w n (.map es' c')) := fun es' c' e1 e2 e3 =>
    H.step (A := mapO n kf vf l) rfl rfl rfl (by simp [World.setBlk]) fun fa ha => ⟨fun b _ hb => heap_setBlk_ne w _ fun e => hb ((ha.1 b).2 e), fa, ⟨ha.1, es', c', heap_setBlk_at w h1, e1, e2, e3⟩, fun b hb => .inl hb⟩
  cases hl : lkI k l 0 with
  | none =>
    refine MapUpdK.of (w' := World.setBlk w n (.map (es.push ⟨kf k, vf v, clock⟩) (clock + 1))) ?_ (kk _ (step _ _ ?_ ?_ ?_))
    · simp only [Instr.mapUpdate, Sem.run_bind, run_und hT ht, Result.andThen_ok, hg, hk.chk, hk.find vf k l es.toList w h2, hl, Option.map_none, hset]
    · rw [putL_none k v l 0 hl]; simp [h2]
    · intro e he
      simp only [Array.toList_push, List.mem_append, List.mem_singleton] at he
      rcases he with he | rfl
      · have := h3 e he; omega
      · exact Nat.lt_succ_self _
    · simp only [Array.toList_push, List.map_append, List.map_cons, List.map_nil]
      refine List.nodup_append.2 ⟨h4, by simp, fun a ha b hb => ?_⟩
      simp only [List.mem_singleton] at hb
      obtain ⟨e, he, rfl⟩ := List.mem_map.1 ha
      have := h3 e he
      omega
  | some q =>
    obtain ⟨j, u⟩ := q
    have hj := lkI_ge k l 0 j u hl
    have hje : j < es.size := by have := hlen; simp at this; omega
    have hkey : (es[j]?.map (·.key)).getD (kf k) = kf k := by
      have h5 : (es.toList.map (fun e => (e.key, e.val)))[j]? = (l.map (fun p => (kf p.1, vf p.2)))[j]? := by rw [h2]
      have h6 : ∀ (l : List (κ × ν)) (i j : Nat) (u : ν), lkI k l i = some (j, u) → ∃ p, l[j - i]? = some p ∧ p.1 = k := by
        intro l
        induction l with
        | nil => intro i j u h; cases h
        | cons p l ih =>
          intro i j u h
          have hg := lkI_ge k (p :: l) i j u h
          unfold lkI at h
          split at h
          · rename_i hp
            simp only [Option.some.injEq, Prod.mk.injEq] at h
            exact ⟨p, by rw [← h.1, Nat.sub_self]; rfl, hp⟩
          · have hg2 := lkI_ge k l (i + 1) j u h
            obtain ⟨p', hp', hk'⟩ := ih _ _ _ h
            exact ⟨p', by rw [show j - i = (j - (i + 1)) + 1 by omega]; simpa using hp', hk'⟩
      obtain ⟨p, hp, hpk⟩ := h6 l 0 j u hl
      rw [Nat.sub_zero] at hp
      simp only [List.getElem?_map, hp, Option.map_some, Array.getElem?_toList] at h5
      cases he : es[j]? with
      | none => rw [he] at h5; cases h5
      | some e =>
        rw [he] at h5
        simp only [Option.map_some, Option.some.injEq, Prod.mk.injEq] at h5
        simp [h5.1, hpk]
    refine MapUpdK.of (w' := World.setBlk w n (.map (es.modify j fun e => { e with key := kf k, val := vf v }) clock)) ?_ (kk _ (step _ _ ?_ ?_ ?_))
    · simp only [Instr.mapUpdate, Sem.run_bind, run_und hT ht, Result.andThen_ok, hg, hk.chk, hk.find vf k l es.toList w h2, hl, Option.map_some, hkey, Instr.keyThatStays, hk.same, if_true, Sem.run_pure, hset]
    · rw [putL_some k v l 0 j u hl, Nat.sub_zero, List.map_set, ← h2, Array.toList_modify]
      apply List.ext_getElem?
      intro i
      simp only [List.getElem?_map, List.getElem?_modify, List.getElem?_set, List.length_map, Array.length_toList]
      by_cases hij : j = i
      · subst hij; simp [hje]
      · simp [hij]
    · intro e he
      rw [Array.toList_modify] at he
      obtain ⟨i, hi⟩ := List.mem_iff_getElem?.1 he
      rw [List.getElem?_modify] at hi
      cases hq : es.toList[i]? with
      | none => rw [hq] at hi; simp at hi
      | some e0 =>
        have := h3 e0 (List.mem_iff_getElem?.2 ⟨i, hq⟩)
        rw [hq] at hi
        simp only [Option.map_eq_map, Option.map_some, Option.some.injEq] at hi
        subst hi
        split <;> exact this
    · have : (es.modify j fun e => { e with key := kf k, val := vf v }).toList.map (·.born) = es.toList.map (·.born) := by
        rw [Array.toList_modify]
        apply List.ext_getElem?
        intro i
        simp only [List.getElem?_map, List.getElem?_modify]
        cases es.toList[i]? with
        | none => rfl
        | some e => simp only [Option.map_eq_map, Option.map_some]; split <;> rfl
      rw [this]; exact h4
end
/-! ### Ranging -/
def rngO (n g : Nat) {κ ν : Type} (kf : κ → Value) (vf : ν → Value) (l left : List (κ × ν)) (cur : Option (κ × ν)) : Asn where
  at_ w fp := (∀ b, fp b ↔ b = n ∨ b = g) ∧ n ≠ g ∧ ∃ es clock seen, w.heap[n]? = some (.map es clock) ∧ w.heap[g]? = some (.mapIter (some n) clock seen clock) ∧ es.toList.map (fun e => (e.key, e.val)) = l.map (fun p => (kf p.1, vf p.2)) ∧
    (∀ e ∈ es.toList, e.born < clock) ∧ (es.toList.map MapEntry.born).Nodup ∧ (leftOf es seen).toList.map (fun e => (e.key, e.val)) = left.map (fun p => (kf p.1, vf p.2)) ∧
    ∀ p, cur = some p → ∃ (s0 : Array Nat) (e : MapEntry), seen = s0.push e.born ∧ e ∈ es.toList ∧ e.key = kf p.1 ∧ e.val = vf p.2
  loc := fun h k => by
    obtain ⟨h1, h0, es, clock, seen, h2, h3, r⟩ := h
    exact ⟨h1, h0, es, clock, seen, by rw [k n ((h1 n).2 (.inl rfl))]; exact h2, by rw [k g ((h1 g).2 (.inr rfl))]; exact h3, r⟩
  lt := fun h hb => by
    obtain ⟨h1, h0, es, clock, seen, h2, h3, r⟩ := h
    rcases (h1 _).1 hb with rfl | rfl
    · exact (Array.getElem?_eq_some_iff.1 h2).1
    · exact (Array.getElem?_eq_some_iff.1 h3).1
class TakeI (S : List Asn) (g : Nat) {κ ν : outParam Type} (n : outParam Nat) (kf : outParam (κ → Value)) (vf : outParam (ν → Value)) (l left : outParam (List (κ × ν))) (cur : outParam (Option (κ × ν))) (S' : outParam (List Asn)) : Prop where
  perm : S.Perm (rngO n g kf vf l left cur :: S')
instance (priority := 2000) TakeI.here (n g : Nat) {κ ν : Type} (kf : κ → Value) (vf : ν → Value) (l left : List (κ × ν)) (cur : Option (κ × ν)) (S : List Asn) : TakeI (rngO n g kf vf l left cur :: S) g n kf vf l left cur S := ⟨.refl _⟩
instance (priority := 1000) TakeI.there (n g : Nat) {κ ν : Type} (kf : κ → Value) (vf : ν → Value) (l left : List (κ × ν)) (cur : Option (κ × ν)) (b : Asn) (S S' : List Asn) [h : TakeI S g n kf vf l left cur S'] : TakeI (b :: S) g n kf vf l left cur (b :: S') := ⟨(h.perm.cons b).trans (.swap _ b S')⟩
theorem map_split {α β γ : Type} {f : α → γ} {g : β → γ} : ∀ {x : List α} {y : List β} {e : α} {u v : List α}, x.map f = y.map g → x = u ++ e :: v → ∃ a p b, y = a ++ p :: b ∧ f e = g p ∧ u.map f = a.map g ∧ v.map f = b.map g
  | _, [], e, u, v, h, rfl => by cases u <;> simp at h
  | _, p :: y, e, [], v, h, rfl => by
    simp only [List.nil_append, List.map_cons, List.cons.injEq] at h
    exact ⟨[], p, y, rfl, h.1, rfl, h.2⟩
  | _, q :: y, e, z :: u, v, h, rfl => by
    simp only [List.cons_append, List.map_cons, List.cons.injEq] at h
    obtain ⟨a, p, b, h1, h2, h3, h4⟩ := map_split (x := u ++ e :: v) h.2 rfl
    exact ⟨q :: a, p, b, by rw [h1]; rfl, h2, by simp [h.1, h3], h4⟩
theorem filter_push {es : List MapEntry} (hn : (es.map MapEntry.born).Nodup) (seen : Array Nat) (e : MapEntry) (he : e ∈ es) (hs : seen.contains e.born = false) :
    ∃ u v, es.filter (fun x => !seen.contains x.born) = u ++ e :: v ∧ es.filter (fun x => !(seen.push e.born).contains x.born) = u ++ v := by
  induction es with
  | nil => cases he
  | cons x es ih =>
    simp only [List.map_cons, List.nodup_cons] at hn
    have other : ∀ y : MapEntry, y.born ≠ e.born → (seen.push e.born).contains y.born = seen.contains y.born := fun y hy => by
      rw [contains_push]; have : (y.born == e.born) = false := by simpa using hy
      rw [this, Bool.or_false]
    rcases List.mem_cons.1 he with rfl | he
    · have rest : es.filter (fun x => !(seen.push e.born).contains x.born) = es.filter (fun x => !seen.contains x.born) := List.filter_congr fun y hy => by
        rw [other y fun h => hn.1 (h ▸ List.mem_map_of_mem hy)]
      refine ⟨[], es.filter (fun x => !seen.contains x.born), ?_, ?_⟩
      · rw [List.filter_cons_of_pos (by rw [hs]; rfl)]; rfl
      · rw [List.filter_cons_of_neg (by rw [contains_push]; simp), rest]; rfl
    · obtain ⟨u, v, h1, h2⟩ := ih hn.2 he
      have hx : x.born ≠ e.born := fun h => hn.1 (h ▸ List.mem_map_of_mem he)
      by_cases hc : seen.contains x.born = true
      · refine ⟨u, v, ?_, ?_⟩
        · rw [List.filter_cons_of_neg (by rw [hc]; simp), h1]
        · rw [List.filter_cons_of_neg (by rw [other x hx, hc]; simp), h2]
      · have hc : seen.contains x.born = false := by simpa using hc
        refine ⟨x :: u, v, ?_, ?_⟩
        · rw [List.filter_cons_of_pos (by rw [hc]; rfl), h1]; rfl
        · rw [List.filter_cons_of_pos (by rw [other x hx, hc]; rfl), h2]; rfl
section
variable {P : Program} {T : Tab} {K : Value → World → Prop} {w : World} {B : Base} {S S' : List Asn} {F : List Fact} {κ ν : Type} {kf : κ → Value} {vf : ν → Value} {n g : Nat} {l left : List (κ × ν)} {cur : Option (κ × ν)}
theorem range_rule (hT : T.Ok P) (H : Hp B S F w) [hp : TakeM S n kf vf l S'] {t kt et : TypeId} {i : TypeInfo} (ht : T t = some ⟨.map kt et, i⟩)
    (k : ∀ g w', Hp B (rngO n g kf vf l l none :: S') F w' → K (.pointer (some ⟨g, 0, none⟩)) w') : RangeK P K w t (.map (some n)) := by
  have hp' : Take S (mapO n kf vf l) S' := ⟨hp.perm⟩
  obtain ⟨fa, _, es, clock, h1, h2, h3, h4⟩ := H.own (A := mapO n kf vf l)
  have hlt := (Array.getElem?_eq_some_iff.1 h1).1
  refine RangeK.of (run_range_map w t kt et n es clock (hT t _ ht).1 h1) (k _ _ (H.step (A := mapO n kf vf l) rfl rfl rfl (by simp) fun fa ha => ?_))
  refine ⟨fun b hb _ => heap_alloc_lt w _ hb, fun b => b = n ∨ b = w.heap.size, ⟨fun _ => Iff.rfl, by omega, es, clock, #[], ?_, heap_alloc_at w _, h2, h3, h4, ?_, fun p hp => by cases hp⟩, fun b hb => ?_⟩
  · rw [heap_alloc_lt w _ hlt]; exact h1
  · have : leftOf es #[] = es := by unfold leftOf; exact Array.filter_eq_self.2 (by simp)
    rw [this]; exact h2
  · rcases hb with rfl | rfl
    · exact .inl ((ha.1 _).2 rfl)
    · exact .inr (Nat.le_refl _)
theorem next_rule (H : Hp B S F w) [hp : TakeI S g n kf vf l left cur S'] {t : TypeId} (h0 : left = [] → K (.tuple #[.bool false]) w)
    (k : ∀ a p b w', left = a ++ p :: b → Hp B (rngO n g kf vf l (a ++ b) (some p) :: S') F w' → K (.tuple #[.bool true, kf p.1, vf p.2]) w') : NextK P K w (.pointer (some ⟨g, 0, none⟩)) false t := by
  have hp' : Take S (rngO n g kf vf l left cur) S' := ⟨hp.perm⟩
  obtain ⟨fa, _, hne, es, clock, seen, h1, h2, h3, h4, h5, h6, h7⟩ := H.own (A := rngO n g kf vf l left cur)
  rcases run_next_at (P := P) w t g n clock clock seen es clock h2 h1 h4 (Nat.le_refl _) with ⟨hz, hr⟩ | ⟨e, he, w1, hw, hr⟩
  · refine NextK.of hr (h0 ?_)
    have : (leftOf es seen).toList = [] := by simpa using hz
    rw [this] at h6
    cases left with
    | nil => rfl
    | cons _ _ => cases h6
  · have hmem := mem_left he
    obtain ⟨u, v, q1, q2⟩ := filter_push h5 seen e hmem.1 hmem.2
    have q1' : (leftOf es seen).toList = u ++ e :: v := by rw [← q1]; simp [leftOf]
    obtain ⟨a, p, b, e1, e2, e3, e4⟩ := map_split h6 q1'
    simp only [Prod.mk.injEq] at e2
    refine NextK.of hr ?_
    rw [e2.1, e2.2]
    have hh : w1.heap = w.heap := by rcases hw with rfl | rfl <;> rfl
    refine k a p b _ e1 (H.step (A := rngO n g kf vf l left cur) ?_ ?_ ?_ (by simp [setBlock, hh]) fun fa ha => ⟨fun b _ hb => ?_, fa, ⟨ha.1, hne, es, clock, seen.push e.born, ?_, ?_, h3, h4, h5, ?_, ?_⟩, fun b hb => .inl hb⟩)
    · rcases hw with rfl | rfl <;> rfl
    · rcases hw with rfl | rfl <;> rfl
    · rcases hw with rfl | rfl <;> rfl
    · show (w1.heap.setIfInBounds g _)[b]? = _
      rw [Array.getElem?_setIfInBounds_ne (fun h => hb ((ha.1 b).2 (.inr h.symm))), hh]
    · show (w1.heap.setIfInBounds g _)[n]? = _
      rw [Array.getElem?_setIfInBounds_ne (Ne.symm hne), hh, h1]
    · show (w1.heap.setIfInBounds g _)[g]? = _
      rw [hh, Array.getElem?_setIfInBounds_self_of_lt (Array.getElem?_eq_some_iff.1 h2).1]
    · have : (leftOf es (seen.push e.born)).toList = u ++ v := by rw [← q2]; simp only [leftOf, Array.toList_filter]
      rw [this]; simp [e3, e4]
    · intro p' hp'
      cases hp'
      exact ⟨seen, e, rfl, hmem.1, e2.1, e2.2⟩
theorem entry_rule (H : Hp B S F w) {p : κ × ν} [hp : TakeI S g n kf vf l left (some p) S'] (k : K (.tuple #[kf p.1, vf p.2]) w) : EntryK P K w (.pointer (some ⟨g, 0, none⟩)) := by
  obtain ⟨fa, _, hne, es, clock, seen, h1, h2, h3, h4, h5, h6, h7⟩ := H.own (A := rngO n g kf vf l left (some p)) (hp := ⟨hp.perm⟩)
  obtain ⟨s0, e, rfl, he, e1, e2⟩ := h7 p rfl
  refine EntryK.of (run_entry_at w g n clock s0 es clock e h2 h1 he h5) ?_
  rw [e1, e2]; exact k
end
end Go.Wk
