/- Maps of the call's own: entries in the order in which they came; ranging in whatever order. -/
import Derived.Test.YtfemfomgmopibaaGreatDoorLk3
import Derived.Maps.RangeRun
import Derived.Laws.StructEq
import Derived.Laws.Slices
import Derived.Laws.Externs
import Derived.Stop.Asserts
set_option linter.unusedVariables false
set_option linter.unusedSimpArgs false
namespace Go.Wk
open Go.ChangeMaps (setBlock)

section
variable {κ ν : Type} [DecidableEq κ]
def lkI (k : κ) : List (κ × ν) → Nat → Option (Nat × ν)
  | [], _ => none
  | p :: l, i => if p.1 = k then some (i, p.2) else lkI k l (i + 1)
def lk (k : κ) : List (κ × ν) → Option ν
  | [] => none
  | p :: l => if p.1 = k then some p.2 else lk k l
def putL (k : κ) (v : ν) : List (κ × ν) → List (κ × ν)
  | [] => [(k, v)]
  | p :: l => if p.1 = k then (k, v) :: l else p :: putL k v l
theorem lkI_lk (k : κ) : ∀ (l : List (κ × ν)) (i : Nat), (lkI k l i).map (·.2) = lk k l
  | [], _ => rfl
  | p :: l, i => by
    unfold lkI lk
    split
    · rfl
    · exact lkI_lk k l (i + 1)
theorem lkI_ge (k : κ) : ∀ (l : List (κ × ν)) (i j : Nat) (v : ν), lkI k l i = some (j, v) → i ≤ j ∧ j < i + l.length
  | [], _, _, _, h => by cases h
  | p :: l, i, j, v, h => by
    unfold lkI at h
    split at h
    · simp only [Option.some.injEq, Prod.mk.injEq] at h; simp only [List.length_cons]; omega
    · have := lkI_ge k l _ _ _ h; simp only [List.length_cons]; omega
theorem putL_none (k : κ) (v : ν) : ∀ (l : List (κ × ν)) (i : Nat), lkI k l i = none → putL k v l = l ++ [(k, v)]
  | [], _, _ => rfl
  | p :: l, i, h => by
    unfold lkI at h
    unfold putL
    split at h
    · cases h
    · rename_i hp
      rw [if_neg hp, putL_none k v l _ h]; rfl
theorem putL_some (k : κ) (v : ν) : ∀ (l : List (κ × ν)) (i j : Nat) (u : ν), lkI k l i = some (j, u) → putL k v l = l.set (j - i) (k, v)
  | [], _, _, _, h => by cases h
  | p :: l, i, j, u, h => by
    have hg := lkI_ge k (p :: l) i j u h
    unfold lkI at h
    unfold putL
    split at h
    · rename_i hp
      simp only [Option.some.injEq, Prod.mk.injEq] at h
      rw [if_pos hp, ← h.1, Nat.sub_self]; rfl
    · rename_i hp
      have hg2 := lkI_ge k l (i + 1) j u h
      rw [if_neg hp, putL_some k v l _ _ _ h]
      rw [show j - i = (j - (i + 1)) + 1 by omega]
      rfl
end
/-- What a type of keys has to offer. -/
structure Keys (P : Program) (kt : TypeId) {κ : Type} [DecidableEq κ] (kf : κ → Value) : Prop where
  chk : ∀ b k w, (Instr.checkKey b 10000 kt (kf k)).run P w = .ok () w
  find : ∀ {ν : Type} (vf : ν → Value) (k : κ) (l : List (κ × ν)) (es : List MapEntry) w, es.map (fun e => (e.key, e.val)) = l.map (fun p => (kf p.1, vf p.2)) → (Instr.findKey kt (kf k) es).run P w = .ok ((lkI k l 0).map fun q => (q.1, vf q.2)) w
  same : ∀ k, Instr.sameBits 10000 (kf k) (kf k) = true
theorem int_keys {P : Program} {T : Tab} (hT : T.Ok P) {kt : TypeId} {q : IntKind} {i : TypeInfo} (ht : T kt = some ⟨.int q, i⟩) : Keys P kt (fun n : Int => .int q n) where
  chk := fun b k w => by
    show (Instr.checkKey b (9999 + 1) kt (.int q k)).run P w = _
    generalize 9999 = d
    simp only [Instr.checkKey, Sem.run_bind, run_und hT ht, Result.andThen_ok, Sem.run_pure]
  find := fun {ν} vf k l es w h => by
    have key : ∀ (l : List (Int × ν)) (es : List MapEntry) (i : Nat), es.map (fun e => (e.key, e.val)) = l.map (fun p => (Value.int q p.1, vf p.2)) → Instr.findNow (.int q) (.int q k) es i = some ((lkI k l i).map fun q => (q.1, vf q.2)) := by
      intro l
      induction l with
      | nil => intro es i h; cases es with
        | nil => rfl
        | cons _ _ => cases h
      | cons p l ih =>
        intro es i h
        cases es with
        | nil => cases h
        | cons e es =>
          simp only [List.map_cons, List.cons.injEq, Prod.mk.injEq] at h
          obtain ⟨⟨h1, h2⟩, h3⟩ := h
          unfold Instr.findNow lkI
          simp only [h1, Instr.sameNow, if_true]
          by_cases hk : p.1 = k
          · rw [if_pos hk]; simp [hk, h2]
          · rw [if_neg hk]
            have : (k == p.1) = false := by simpa using fun h => hk h.symm
            rw [this]
            exact ih es (i + 1) h3
    simp only [Instr.findKey, Sem.run_bind, run_und hT ht, Result.andThen_ok, key l es 0 h, Sem.run_pure]
  same := fun k => by simp [Instr.sameBits]
/-- A map of the call's own. -/
def mapO (n : Nat) {κ ν : Type} (kf : κ → Value) (vf : ν → Value) (l : List (κ × ν)) : Asn where
  at_ w fp := (∀ b, fp b ↔ b = n) ∧ ∃ es clock, w.heap[n]? = some (.map es clock) ∧ es.toList.map (fun e => (e.key, e.val)) = l.map (fun p => (kf p.1, vf p.2)) ∧ (∀ e ∈ es.toList, e.born < clock) ∧ (es.toList.map MapEntry.born).Nodup
  loc := fun h k => by
    obtain ⟨h1, es, clock, h2, r⟩ := h
    exact ⟨h1, es, clock, by rw [k n ((h1 n).2 rfl)]; exact h2, r⟩
  lt := fun ⟨h1, es, clock, h2, _⟩ hb => by rw [(h1 _).1 hb]; exact (Array.getElem?_eq_some_iff.1 h2).1
class TakeM (S : List Asn) (n : Nat) {κ ν : outParam Type} (kf : outParam (κ → Value)) (vf : outParam (ν → Value)) (l : outParam (List (κ × ν))) (S' : outParam (List Asn)) : Prop where
  perm : S.Perm (mapO n kf vf l :: S')
instance (priority := 2000) TakeM.here (n : Nat) {κ ν : Type} (kf : κ → Value) (vf : ν → Value) (l : List (κ × ν)) (S : List Asn) : TakeM (mapO n kf vf l :: S) n kf vf l S := ⟨.refl _⟩
instance (priority := 1000) TakeM.there (n : Nat) {κ ν : Type} (kf : κ → Value) (vf : ν → Value) (l : List (κ × ν)) (b : Asn) (S S' : List Asn) [h : TakeM S n kf vf l S'] : TakeM (b :: S) n kf vf l (b :: S') := ⟨(h.perm.cons b).trans (.swap _ b S')⟩
section
variable {P : Program} {T : Tab} {K : Value → World → Prop} {w : World} {B : Base} {S S' : List Asn} {F : List Fact} {κ ν : Type}
theorem makeMap_rule (H : Hp B S F w) (kf : κ → Value) (vf : ν → Value) {t : TypeId} (k : ∀ n w', Hp B (mapO n kf vf [] :: S) F w' → K (.map (some n)) w') : MakeMapK P K w t none := by
  refine MakeMapK.of (w' := w.alloc (.map #[] 0)) (v := .map (some w.heap.size)) (by simp [Instr.makeMap]) (k _ _ ?_)
  have h := H.alloc (.map #[] 0)
  have hp : Take (blkO w.heap.size (.map #[] 0) :: S) (blkO w.heap.size (.map #[] 0)) S := ⟨.refl _⟩
  refine h.step (A := blkO w.heap.size (.map #[] 0)) rfl rfl rfl (Nat.le_refl _) fun fa ha => ⟨fun _ _ _ => rfl, fa, ⟨ha.1, #[], 0, ha.2, rfl, by simp, by simp⟩, fun b hb => .inl hb⟩
variable [DecidableEq κ] {kf : κ → Value} {vf : ν → Value} {n : Nat} {l : List (κ × ν)}
theorem lookup_rule (hT : T.Ok P) (H : Hp B S F w) [hp : TakeM S n kf vf l S'] {t kt et : TypeId} {i : TypeInfo} {de : TD} {z v : Value} {k : κ} {x : Value} (ht : T t = some ⟨.map kt et, i⟩) (he : T et = some de) (hz : de.info.zero = some z)
    (hk : Keys P kt kf) (hx : x = kf k) (hv : v = ((lk k l).map vf).getD z) (kk : K v w) : LookupK P K w t (.map (some n)) x false := by
  subst hx hv
  obtain ⟨fa, _, es, clock, h1, h2, _⟩ := H.own (A := mapO n kf vf l) (hp := ⟨hp.perm⟩)
  refine LookupK.of ?_ kk
  have hg : ∀ w', w'.heap[n]? = some (.map es clock) → (getObj n).run P w' = .ok (.map es clock) w' := fun w' h => by simp [getObj, Sem.run, h]
  simp only [Instr.lookup, Sem.run_bind, run_und hT ht, Result.andThen_ok, hg w h1, Sem.run_pure, hk.chk, hk.find vf k l es.toList w h2, ← lkI_lk k l 0]
  cases lkI k l 0 with
  | none => simp [zero_rule hT he hz]
  | some q => simp
theorem lookup_ok_rule (hT : T.Ok P) (H : Hp B S F w) [hp : TakeM S n kf vf l S'] {t kt et : TypeId} {i : TypeInfo} {de : TD} {z v : Value} {k : κ} {x : Value} (ht : T t = some ⟨.map kt et, i⟩) (he : T et = some de) (hz : de.info.zero = some z)
    (hk : Keys P kt kf) (hx : x = kf k) (hv : v = .tuple #[((lk k l).map vf).getD z, .bool (lk k l).isSome]) (kk : K v w) : LookupK P K w t (.map (some n)) x true := by
  subst hx hv
  obtain ⟨fa, _, es, clock, h1, h2, _⟩ := H.own (A := mapO n kf vf l) (hp := ⟨hp.perm⟩)
  refine LookupK.of ?_ kk
  have hg : ∀ w', w'.heap[n]? = some (.map es clock) → (getObj n).run P w' = .ok (.map es clock) w' := fun w' h => by simp [getObj, Sem.run, h]
  simp only [Instr.lookup, Sem.run_bind, run_und hT ht, Result.andThen_ok, hg w h1, Sem.run_pure, hk.chk, hk.find vf k l es.toList w h2, ← lkI_lk k l 0]
  cases lkI k l 0 with
  | none => simp [zero_rule hT he hz]
  | some q => simp
theorem mapUpd_rule (hT : T.Ok P) (H : Hp B S F w) [hp : TakeM S n kf vf l S'] {t kt et : TypeId} {i : TypeInfo} {k : κ} {v : ν} {x y : Value} (ht : T t = some ⟨.map kt et, i⟩)
    (hk : Keys P kt kf) (hx : x = kf k) (hy : y = vf v) (kk : ∀ w', Hp B (mapO n kf vf (putL k v l) :: S') F w' → K undef w') : MapUpdK P K w t (.map (some n)) x y := by
  subst hx hy
  have hp' : Take S (mapO n kf vf l) S' := ⟨hp.perm⟩
  obtain ⟨fa, _, es, clock, h1, h2, h3, h4⟩ := H.own (A := mapO n kf vf l)
  have hg : (getObj n).run P w = .ok (.map es clock) w := by simp [getObj, Sem.run, h1]
  have hset : ∀ es' c', (setObj n (.map es' c')).run P w = .ok () (World.setBlk w n (.map es' c')) := fun es' c' => by
    simp [setObj, Sem.run, h1, World.setBlk]
  have hlen : es.toList.length = l.length := by simpa using congrArg List.length h2
  have step : ∀ es' c', es'.toList.map (fun e => (e.key, e.val)) = (putL k v l).map (fun p => (kf p.1, vf p.2)) → (∀ e ∈ es'.toList, e.born < c') → (es'.toList.map MapEntry.born).Nodup → Hp B (mapO n kf vf (putL k v l) :: S') F (World.setBlk w n (.map es' c')) := fun es' c' e1 e2 e3 =>
    H.step (A := mapO n kf vf l) rfl rfl rfl (by simp [World.setBlk]) fun fa ha => ⟨fun b _ hb => heap_setBlk_ne w _ fun e => hb ((ha.1 b).2 e), fa, ⟨ha.1, es', c', heap_setBlk_at w h1, e1, e2, e3⟩, fun b hb => .inl hb⟩
  cases hl : lkI k l 0 with
  | none =>
    refine MapUpdK.of (w' := World.setBlk w n (.map (es.push ⟨kf k, vf v, clock⟩) (clock + 1))) ?_ (kk _ (step _ _ ?_ ?_ ?_))
    · simp only [Instr.mapUpdate, Sem.run_bind, run_und hT ht, Result.andThen_ok, hg, hk.chk, hk.find vf k l es.toList w h2, hl, Option.map_none, hset]
    · rw [putL_none k v l 0 hl]; simp [h2]
    · intro e he
      simp only [Array.toList_push, List.mem_append, List.mem_singleton] at he
      rcases he with he | rfl
      · have := h3 e he; omega
      · exact Nat.lt_succ_self _
    · simp only [Array.toList_push, List.map_append, List.map_cons, List.map_nil]
      refine List.nodup_append.2 ⟨h4, by simp, fun a ha b hb => ?_⟩
      simp only [List.mem_singleton] at hb
      obtain ⟨e, he, rfl⟩ := List.mem_map.1 ha
      have := h3 e he
      omega
  | some q =>
    obtain ⟨j, u⟩ := q
    have hj := lkI_ge k l 0 j u hl
    have hje : j < es.size := by have := hlen; simp at this; omega
    have hkey : (es[j]?.map (·.key)).getD (kf k) = kf k := by
      have h5 : (es.toList.map (fun e => (e.key, e.val)))[j]? = (l.map (fun p => (kf p.1, vf p.2)))[j]? := by rw [h2]
      have h6 : ∀ (l : List (κ × ν)) (i j : Nat) (u : ν), lkI k l i = some (j, u) → ∃ p, l[j - i]? = some p ∧ p.1 = k := by
        intro l
        induction l with
        | nil => intro i j u h; cases h
        | cons p l ih =>
          intro i j u h
          have hg := lkI_ge k (p :: l) i j u h
          unfold lkI at h
          split at h
          · rename_i hp
            simp only [Option.some.injEq, Prod.mk.injEq] at h
            exact ⟨p, by rw [← h.1, Nat.sub_self]; rfl, hp⟩
          · have hg2 := lkI_ge k l (i + 1) j u h
            obtain ⟨p', hp', hk'⟩ := ih _ _ _ h
            exact ⟨p', by rw [show j - i = (j - (i + 1)) + 1 by omega]; simpa using hp', hk'⟩
      obtain ⟨p, hp, hpk⟩ := h6 l 0 j u hl
      rw [Nat.sub_zero] at hp
      simp only [List.getElem?_map, hp, Option.map_some, Array.getElem?_toList] at h5
      cases he : es[j]? with
      | none => rw [he] at h5; cases h5
      | some e =>
        rw [he] at h5
        simp only [Option.map_some, Option.some.injEq, Prod.mk.injEq] at h5
        simp [h5.1, hpk]
    refine MapUpdK.of (w' := World.setBlk w n (.map (es.modify j fun e => { e with key := kf k, val := vf v }) clock)) ?_ (kk _ (step _ _ ?_ ?_ ?_))
    · simp only [Instr.mapUpdate, Sem.run_bind, run_und hT ht, Result.andThen_ok, hg, hk.chk, hk.find vf k l es.toList w h2, hl, Option.map_some, hkey, Instr.keyThatStays, hk.same, if_true, Sem.run_pure, hset]
    · rw [putL_some k v l 0 j u hl, Nat.sub_zero, List.map_set, ← h2, Array.toList_modify]
      apply List.ext_getElem?
      intro i
      simp only [List.getElem?_map, List.getElem?_modify, List.getElem?_set, List.length_map, Array.length_toList]
      by_cases hij : j = i
      · subst hij; simp [hje]
      · simp [hij]
    · intro e he
      rw [Array.toList_modify] at he
      obtain ⟨i, hi⟩ := List.mem_iff_getElem?.1 he
      rw [List.getElem?_modify] at hi
      cases hq : es.toList[i]? with
      | none => rw [hq] at hi; simp at hi
      | some e0 =>
        have := h3 e0 (List.mem_iff_getElem?.2 ⟨i, hq⟩)
        rw [hq] at hi
        simp only [Option.map_eq_map, Option.map_some, Option.some.injEq] at hi
        subst hi
        split <;> exact this
    · have : (es.modify j fun e => { e with key := kf k, val := vf v }).toList.map (·.born) = es.toList.map (·.born) := by
        rw [Array.toList_modify]
        apply List.ext_getElem?
        intro i
        simp only [List.getElem?_map, List.getElem?_modify]
        cases es.toList[i]? with
        | none => rfl
        | some e => simp only [Option.map_eq_map, Option.map_some]; split <;> rfl
      rw [this]; exact h4
end
/-! ### Ranging -/
def rngO (n g : Nat) {κ ν : Type} (kf : κ → Value) (vf : ν → Value) (l left : List (κ × ν)) (cur : Option (κ × ν)) : Asn where
  at_ w fp := (∀ b, fp b ↔ b = n ∨ b = g) ∧ n ≠ g ∧ ∃ es clock seen, w.heap[n]? = some (.map es clock) ∧ w.heap[g]? = some (.mapIter (some n) clock seen clock) ∧ es.toList.map (fun e => (e.key, e.val)) = l.map (fun p => (kf p.1, vf p.2)) ∧
    (∀ e ∈ es.toList, e.born < clock) ∧ (es.toList.map MapEntry.born).Nodup ∧ (leftOf es seen).toList.map (fun e => (e.key, e.val)) = left.map (fun p => (kf p.1, vf p.2)) ∧
    ∀ p, cur = some p → ∃ (s0 : Array Nat) (e : MapEntry), seen = s0.push e.born ∧ e ∈ es.toList ∧ e.key = kf p.1 ∧ e.val = vf p.2
  loc := fun h k => by
    obtain ⟨h1, h0, es, clock, seen, h2, h3, r⟩ := h
    exact ⟨h1, h0, es, clock, seen, by rw [k n ((h1 n).2 (.inl rfl))]; exact h2, by rw [k g ((h1 g).2 (.inr rfl))]; exact h3, r⟩
  lt := fun h hb => by
    obtain ⟨h1, h0, es, clock, seen, h2, h3, r⟩ := h
    rcases (h1 _).1 hb with rfl | rfl
    · exact (Array.getElem?_eq_some_iff.1 h2).1
    · exact (Array.getElem?_eq_some_iff.1 h3).1
class TakeI (S : List Asn) (g : Nat) {κ ν : outParam Type} (n : outParam Nat) (kf : outParam (κ → Value)) (vf : outParam (ν → Value)) (l left : outParam (List (κ × ν))) (cur : outParam (Option (κ × ν))) (S' : outParam (List Asn)) : Prop where
  perm : S.Perm (rngO n g kf vf l left cur :: S')
instance (priority := 2000) TakeI.here (n g : Nat) {κ ν : Type} (kf : κ → Value) (vf : ν → Value) (l left : List (κ × ν)) (cur : Option (κ × ν)) (S : List Asn) : TakeI (rngO n g kf vf l left cur :: S) g n kf vf l left cur S := ⟨.refl _⟩
instance (priority := 1000) TakeI.there (n g : Nat) {κ ν : Type} (kf : κ → Value) (vf : ν → Value) (l left : List (κ × ν)) (cur : Option (κ × ν)) (b : Asn) (S S' : List Asn) [h : TakeI S g n kf vf l left cur S'] : TakeI (b :: S) g n kf vf l left cur (b :: S') := ⟨(h.perm.cons b).trans (.swap _ b S')⟩
theorem map_split {α β γ : Type} {f : α → γ} {g : β → γ} : ∀ {x : List α} {y : List β} {e : α} {u v : List α}, x.map f = y.map g → x = u ++ e :: v → ∃ a p b, y = a ++ p :: b ∧ f e = g p ∧ u.map f = a.map g ∧ v.map f = b.map g
  | _, [], e, u, v, h, rfl => by cases u <;> simp at h
  | _, p :: y, e, [], v, h, rfl => by
    simp only [List.nil_append, List.map_cons, List.cons.injEq] at h
    exact ⟨[], p, y, rfl, h.1, rfl, h.2⟩
  | _, q :: y, e, z :: u, v, h, rfl => by
    simp only [List.cons_append, List.map_cons, List.cons.injEq] at h
    obtain ⟨a, p, b, h1, h2, h3, h4⟩ := map_split (x := u ++ e :: v) h.2 rfl
    exact ⟨q :: a, p, b, by rw [h1]; rfl, h2, by simp [h.1, h3], h4⟩
theorem filter_push {es : List MapEntry} (hn : (es.map MapEntry.born).Nodup) (seen : Array Nat) (e : MapEntry) (he : e ∈ es) (hs : seen.contains e.born = false) :
    ∃ u v, es.filter (fun x => !seen.contains x.born) = u ++ e :: v ∧ es.filter (fun x => !(seen.push e.born).contains x.born) = u ++ v := by
  induction es with
  | nil => cases he
  | cons x es ih =>
    simp only [List.map_cons, List.nodup_cons] at hn
    have other : ∀ y : MapEntry, y.born ≠ e.born → (seen.push e.born).contains y.born = seen.contains y.born := fun y hy => by
      rw [contains_push]; have : (y.born == e.born) = false := by simpa using hy
      rw [this, Bool.or_false]
    rcases List.mem_cons.1 he with rfl | he
    · have rest : es.filter (fun x => !(seen.push e.born).contains x.born) = es.filter (fun x => !seen.contains x.born) := List.filter_congr fun y hy => by
        rw [other y fun h => hn.1 (h ▸ List.mem_map_of_mem hy)]
      refine ⟨[], es.filter (fun x => !seen.contains x.born), ?_, ?_⟩
      · rw [List.filter_cons_of_pos (by rw [hs]; rfl)]; rfl
      · rw [List.filter_cons_of_neg (by rw [contains_push]; simp), rest]; rfl
    · obtain ⟨u, v, h1, h2⟩ := ih hn.2 he
      have hx : x.born ≠ e.born := fun h => hn.1 (h ▸ List.mem_map_of_mem he)
      by_cases hc : seen.contains x.born = true
      · refine ⟨u, v, ?_, ?_⟩
        · rw [List.filter_cons_of_neg (by rw [hc]; simp), h1]
        · rw [List.filter_cons_of_neg (by rw [other x hx, hc]; simp), h2]
      · have hc : seen.contains x.born = false := by simpa using hc
        refine ⟨x :: u, v, ?_, ?_⟩
        · rw [List.filter_cons_of_pos (by rw [hc]; rfl), h1]; rfl
        · rw [List.filter_cons_of_pos (by rw [other x hx, hc]; rfl), h2]; rfl
section
variable {P : Program} {T : Tab} {K : Value → World → Prop} {w : World} {B : Base} {S S' : List Asn} {F : List Fact} {κ ν : Type} {kf : κ → Value} {vf : ν → Value} {n g : Nat} {l left : List (κ × ν)} {cur : Option (κ × ν)}
theorem range_rule (hT : T.Ok P) (H : Hp B S F w) [hp : TakeM S n kf vf l S'] {t kt et : TypeId} {i : TypeInfo} (ht : T t = some ⟨.map kt et, i⟩)
    (k : ∀ g w', Hp B (rngO n g kf vf l l none :: S') F w' → K (.pointer (some ⟨g, 0, none⟩)) w') : RangeK P K w t (.map (some n)) := by
  have hp' : Take S (mapO n kf vf l) S' := ⟨hp.perm⟩
  obtain ⟨fa, _, es, clock, h1, h2, h3, h4⟩ := H.own (A := mapO n kf vf l)
  have hlt := (Array.getElem?_eq_some_iff.1 h1).1
  refine RangeK.of (run_range_map w t kt et n es clock (hT t _ ht).1 h1) (k _ _ (H.step (A := mapO n kf vf l) rfl rfl rfl (by simp) fun fa ha => ?_))
  refine ⟨fun b hb _ => heap_alloc_lt w _ hb, fun b => b = n ∨ b = w.heap.size, ⟨fun _ => Iff.rfl, by omega, es, clock, #[], ?_, heap_alloc_at w _, h2, h3, h4, ?_, fun p hp => by cases hp⟩, fun b hb => ?_⟩
  · rw [heap_alloc_lt w _ hlt]; exact h1
  · have : leftOf es #[] = es := by unfold leftOf; exact Array.filter_eq_self.2 (by simp)
    rw [this]; exact h2
  · rcases hb with rfl | rfl
    · exact .inl ((ha.1 _).2 rfl)
    · exact .inr (Nat.le_refl _)
theorem next_rule (H : Hp B S F w) [hp : TakeI S g n kf vf l left cur S'] {t : TypeId} (h0 : left = [] → K (.tuple #[.bool false]) w)
    (k : ∀ a p b w', left = a ++ p :: b → Hp B (rngO n g kf vf l (a ++ b) (some p) :: S') F w' → K (.tuple #[.bool true, kf p.1, vf p.2]) w') : NextK P K w (.pointer (some ⟨g, 0, none⟩)) false t := by
  have hp' : Take S (rngO n g kf vf l left cur) S' := ⟨hp.perm⟩
  obtain ⟨fa, _, hne, es, clock, seen, h1, h2, h3, h4, h5, h6, h7⟩ := H.own (A := rngO n g kf vf l left cur)
  rcases run_next_at (P := P) w t g n clock clock seen es clock h2 h1 h4 (Nat.le_refl _) with ⟨hz, hr⟩ | ⟨e, he, w1, hw, hr⟩
  · refine NextK.of hr (h0 ?_)
    have : (leftOf es seen).toList = [] := by simpa using hz
    rw [this] at h6
    cases left with
    | nil => rfl
    | cons _ _ => cases h6
  · have hmem := mem_left he
    obtain ⟨u, v, q1, q2⟩ := filter_push h5 seen e hmem.1 hmem.2
    have q1' : (leftOf es seen).toList = u ++ e :: v := by rw [← q1]; simp [leftOf]
    obtain ⟨a, p, b, e1, e2, e3, e4⟩ := map_split h6 q1'
    simp only [Prod.mk.injEq] at e2
    refine NextK.of hr ?_
    rw [e2.1, e2.2]
    have hh : w1.heap = w.heap := by rcases hw with rfl | rfl <;> rfl
    refine k a p b _ e1 (H.step (A := rngO n g kf vf l left cur) ?_ ?_ ?_ (by simp [setBlock, hh]) fun fa ha => ⟨fun b _ hb => ?_, fa, ⟨ha.1, hne, es, clock, seen.push e.born, ?_, ?_, h3, h4, h5, ?_, ?_⟩, fun b hb => .inl hb⟩)
    · rcases hw with rfl | rfl <;> rfl
    · rcases hw with rfl | rfl <;> rfl
    · rcases hw with rfl | rfl <;> rfl
    · show (w1.heap.setIfInBounds g _)[b]? = _
      rw [Array.getElem?_setIfInBounds_ne (fun h => hb ((ha.1 b).2 (.inr h.symm))), hh]
    · show (w1.heap.setIfInBounds g _)[n]? = _
      rw [Array.getElem?_setIfInBounds_ne (Ne.symm hne), hh, h1]
    · show (w1.heap.setIfInBounds g _)[g]? = _
      rw [hh, Array.getElem?_setIfInBounds_self_of_lt (Array.getElem?_eq_some_iff.1 h2).1]
    · have : (leftOf es (seen.push e.born)).toList = u ++ v := by rw [← q2]; simp only [leftOf, Array.toList_filter]
      rw [this]; simp [e3, e4]
    · intro p' hp'
      cases hp'
      exact ⟨seen, e, rfl, hmem.1, e2.1, e2.2⟩
theorem entry_rule (H : Hp B S F w) {p : κ × ν} [hp : TakeI S g n kf vf l left (some p) S'] (k : K (.tuple #[kf p.1, vf p.2]) w) : EntryK P K w (.pointer (some ⟨g, 0, none⟩)) := by
  obtain ⟨fa, _, hne, es, clock, seen, h1, h2, h3, h4, h5, h6, h7⟩ := H.own (A := rngO n g kf vf l left (some p)) (hp := ⟨hp.perm⟩)
  obtain ⟨s0, e, rfl, he, e1, e2⟩ := h7 p rfl
  refine EntryK.of (run_entry_at w g n clock s0 es clock e h2 h1 he h5) ?_
  rw [e1, e2]; exact k
end
end Go.Wk
/- What compares structs, divides, shifts; strings byte by byte. -/
set_option linter.unusedVariables false
set_option linter.unusedSimpArgs false
namespace Go.Wk
def leafEq (d : Option TD) (x y : Value) : Option Bool := match d, x, y with
  | some ⟨.int _, _⟩, .int k a, .int k' b => bif kEq k k' then some (a == b) else none
  | some ⟨.bool, _⟩, .bool a, .bool b => some (a == b)
  | some ⟨.string, _⟩, .string a, .string b => some (a.toList == b.toList)
  | _, _, _ => none
def fEq (T : Tab) (xs ys : Array Value) : List Field → Option Bool
  | [] => some true
  | f :: fs => bif f.name == "_" then none else match partV (T f.type) xs f.offset, partV (T f.type) ys f.offset with
    | some a, some b => match leafEq (T f.type) a b, fEq T xs ys fs with
      | some r, some s => some (r && s)
      | _, _ => none
    | _, _ => none
section
variable {P : Program} {T : Tab} {K : Value → World → Prop} {w : World}
theorem leaf_sound (hT : T.Ok P) {d : Nat} {t : TypeId} {x y : Value} {r : Bool} (h : leafEq (T t) x y = some r) (w : World) : (Op.equalIn (d + 1) t x y).run P w = .ok r w := by
  unfold leafEq at h
  split at h
  · rename_i ht
    cases hk : kEq _ _ with
    | false => rw [hk] at h; cases h
    | true =>
      rw [hk] at h
      simp only [cond_true, Option.some.injEq] at h
      obtain rfl := kEq_eq hk
      subst h
      exact run_equalIn_int w d t _ _ _ _ (hT t _ ht).1
  · rename_i ht
    simp only [Option.some.injEq] at h
    subst h
    exact run_equalIn_bool' w d t _ _ (hT t _ ht).1
  · rename_i ht
    simp only [Option.some.injEq] at h
    subst h
    exact run_equalIn_string w d t _ _ (hT t _ ht).1
  · cases h
theorem fEq_sound (hT : T.Ok P) {d : Nat} {xs ys : Array Value} : ∀ {fs : List Field} {r : Bool}, fEq T xs ys fs = some r → ∀ w, (Op.eqFields (d + 1) xs ys fs).run P w = .ok r w
  | [], r, h, w => by simp only [fEq, Option.some.injEq] at h; subst h; rfl
  | f :: fs, r, h, w => by
    unfold fEq at h
    cases hn : (f.name == "_") with
    | true => rw [hn] at h; cases h
    | false =>
      rw [hn] at h
      simp only [cond_false] at h
      have hn' : f.name ≠ "_" := by simpa using hn
      cases ha : partV (T f.type) xs f.offset with
      | none => rw [ha] at h; cases h
      | some a =>
        cases hb : partV (T f.type) ys f.offset with
        | none => rw [ha, hb] at h; cases h
        | some b =>
          rw [ha, hb] at h
          simp only at h
          cases hr : leafEq (T f.type) a b with
          | none => rw [hr] at h; cases h
          | some r1 =>
            cases hs : fEq T xs ys fs with
            | none => rw [hr, hs] at h; cases h
            | some s =>
              rw [hr, hs] at h
              simp only [Option.some.injEq] at h
              subst h
              have ih := fEq_sound hT (d := d) hs
              simp only [Op.eqFields, hn', ne_eq, not_false_eq_true, if_true, Sem.run_bind, run_part hT ha, run_part hT hb, Result.andThen_ok, leaf_sound hT hr, Sem.run_ite]
              cases r1 with
              | false => simp
              | true => simpa using ih w
theorem eq_struct (hT : T.Ok P) {t : TypeId} {fs : Array Field} {i : TypeInfo} {xs ys : Array Value} {ox oy : Operand} {r : Bool} (ht : T t = some ⟨.struct fs, i⟩) (hg : P.eqGuardType P.depth t = false) (hs : P.stoodInHeld t = false)
    (h : fEq T xs ys fs.toList = some r) (k : K (.bool r) w) : BinK P K w .eql t ox oy (.agg xs) (.agg ys) := by
  have hf : P.fieldsOf t = fs := by unfold Program.fieldsOf; rw [(hT t _ ht).1]
  refine BinK.of ?_ k
  simp only [binS, Sem.run_bind, run_eqGuard_agg w .eql t ox oy xs ys hg, Result.andThen_ok, run_eql_struct]
  have := run_equalIn_struct (P := P) w 9999 t xs ys (by rw [hf]; exact (hT t _ ht).1) hs
  rw [this, hf, fEq_sound hT (d := 9998) h]
  rfl
theorem ne_struct (hT : T.Ok P) {t : TypeId} {fs : Array Field} {i : TypeInfo} {xs ys : Array Value} {ox oy : Operand} {r : Bool} (ht : T t = some ⟨.struct fs, i⟩) (hg : P.eqGuardType P.depth t = false) (hs : P.stoodInHeld t = false)
    (h : fEq T xs ys fs.toList = some r) (k : K (.bool (!r)) w) : BinK P K w .neq t ox oy (.agg xs) (.agg ys) := by
  have hf : P.fieldsOf t = fs := by unfold Program.fieldsOf; rw [(hT t _ ht).1]
  refine BinK.of ?_ k
  simp only [binS, Sem.run_bind, run_eqGuard_agg w .neq t ox oy xs ys hg, Result.andThen_ok, run_neq_struct]
  have := run_equalIn_struct (P := P) w 9999 t xs ys (by rw [hf]; exact (hT t _ ht).1) hs
  rw [this, hf, fEq_sound hT (d := 9998) h]
  rfl
end
end Go.Wk
/- Rows of the call's own that are read and written in place; blocks that are given up and read asx lists. -/
set_option linter.unusedVariables false
set_option linter.unusedSimpArgs false
namespace Go.Wk
class TakeRB (S : List Asn) (b : Nat) (e sz n c : outParam Nat) (cs : outParam (List Value)) (S' : outParam (List Asn)) : Prop where
  perm : S.Perm (row e sz (.slice (some ⟨b, 0, none⟩) n c) n cs :: S')
instance (priority := 2000) TakeRB.here (b e sz n c : Nat) (cs : List Value) (S : List Asn) : TakeRB (row e sz (.slice (some ⟨b, 0, none⟩) n c) n cs :: S) b e sz n c cs S := ⟨.refl _⟩
instance (priority := 1000) TakeRB.there (b e sz n c : Nat) (cs : List Value) (a : Asn) (S S' : List Asn) [h : TakeRB S b e sz n c cs S'] : TakeRB (a :: S) b e sz n c cs (a :: S') := ⟨(h.perm.cons a).trans (.swap _ a S')⟩
section
variable {P : Program} {T : Tab} {K : Value → World → Prop} {w : World} {B : Base} {S S' : List Asn} {F : List Fact}
theorem row_ld (hT : T.Ok P) (H : Hp B S F w) {b o e sz n c : Nat} {cs : List Value} {t : TypeId} (v : Value) [hp : TakeRB S b e sz n c cs S'] (h : ldV (T t) cs o = some v) (k : K v w) : LoadK P K w t (.pointer (some ⟨b, o, none⟩)) := by
  obtain ⟨fa, ha⟩ := H.own (A := row e sz (.slice (some ⟨b, 0, none⟩) n c) n cs) (hp := ⟨hp.perm⟩)
  obtain ⟨_, _, hc, _⟩ := row_cells ha rfl
  have := hc.of_ld hT h
  rw [Nat.zero_add] at this
  exact this.load k
theorem setL_take : ∀ (vs cs : List Value) (o m : Nat), o + vs.length ≤ m → (setL cs o vs).take m = setL (cs.take m) o vs
  | [], _, _, _, _ => rfl
  | v :: vs, cs, o, m, h => by
    simp only [List.length_cons] at h
    rw [setL, setL, setL_take vs _ _ _ (by omega)]
    congr 1
    apply List.ext_getElem?
    intro i
    simp only [List.getElem?_take, List.getElem?_set, List.length_take]
    by_cases hi : o = i
    · subst hi
      have : o < m := by omega
      simp only [this, if_true]
      by_cases hl : o < cs.length
      · have h2 : o < min m cs.length := by omega
        simp [hl, h2]
      · have : ¬ o < min m cs.length := by omega
        simp [hl, this]
    · simp [hi]
theorem row_st (hT : T.Ok P) (H : Hp B S F w) {b o e sz n c : Nat} {cs : List Value} {t : TypeId} {d : TD} {x : Value} [hp : TakeRB S b e sz n c cs S'] (ht : T t = some d) (hs : Nat.beq x.cells.toList.length d.info.size = true)
    (hl : o + x.cells.toList.length ≤ cs.length) (h1 : allOne x.cells.toList = true)
    (k : ∀ w', Hp B (row e sz (.slice (some ⟨b, 0, none⟩) n c) n (setL cs o x.cells.toList) :: S') F w' → K undef w') : StoreK P K w t (.pointer (some ⟨b, o, none⟩)) x := by
  have hp' : Take S (row e sz (.slice (some ⟨b, 0, none⟩) n c) n cs) S' := ⟨hp.perm⟩
  obtain ⟨fa, ha⟩ := H.own (A := row e sz (.slice (some ⟨b, 0, none⟩) n c) n cs)
  obtain ⟨⟨q1, q2⟩, q3⟩ := ha
  rcases q2 with ⟨q2, _⟩ | ⟨g, cap, cur, q2, q4, q5, q6, q7, q8, q9⟩
  · cases q2
  · injection q2 with e1 e2 e3
    injection e1 with e1
    injection e1 with e1
    subst e1 e3
    have hlen : cs.length ≤ cur.toList.length := by rw [← q9]; simp; omega
    have hr := run_storeCells_blk (P := P) x.cells.toList cur.toList o 0 w (by simpa using q5) (by omega) h1
    rw [Nat.add_zero] at hr
    have hs' : x.cells.size = d.info.size := by have := Nat.eq_of_beq_eq_true hs; simpa using this
    refine StoreK.of (w' := World.setBlk w b (.cells (setL cur.toList o x.cells.toList).toArray e (0, 0))) ?_ (k _ (H.step (A := row e sz (.slice (some ⟨b, 0, none⟩) n c) n cs) rfl rfl rfl (by simp [World.setBlk]) fun fa ha => ?_))
    · simp only [Instr.storeAt, Instr.sureAddr, storeVar, Sem.run_bind, Sem.run_pure, Result.andThen_ok, run_szOf hT ht, hs', ne_eq, not_true_eq_false, if_false]
      simpa using hr
    · refine ⟨fun k _ hk => heap_setBlk_ne w _ fun e => hk ((ha.2 k).2 (by rw [e]; rfl)), fa, ⟨⟨by rw [length_setL]; exact q1, .inr ⟨b, c, _, rfl, q4, heap_setBlk_at w q5, q6, q7, by simp [length_setL, q8], ?_⟩⟩, ha.2⟩, fun k hk => .inl hk⟩
      rw [← q9, setL_take _ _ _ _ (by rw [← q1]; exact hl)]
/-- A block of one's own reads asx a list, once given up. -/
theorem Hp.frzBlk (H : Hp B S F w) {n : Nat} {cs : List Value} {t : TypeId} {α : Type} (r : Rp α) (xs : List α) [h1 : TakeB S n cs t S'] (hM : ∀ b, ¬ B.M b) (hm : xs.length ≤ 9223372036854775807) (hl : cs.length = xs.length * r.sz)
    (hx : ∀ i x, xs[i]? = some x → ∃ p, r.ok x p ∧ (cs.drop (i * r.sz)).take r.sz = r.cells x p ∧ r.facts x p = []) : Hp B S' (Sl r (.slice (some ⟨n, 0, none⟩) xs.length xs.length) xs :: F) w := by
  refine ((H.perm h1.perm).freeze hM).facts fun I ha f hf => ?_
  rcases List.mem_cons.1 hf with rfl | hf
  · obtain ⟨fp, hb, hi⟩ := ha _ List.mem_cons_self
    refine ⟨_, _, rfl, Nat.le_refl _, hm, (fun h => by cases h), fun i x hxi => ?_⟩
    obtain ⟨p, ok, hc, hf⟩ := hx i x hxi
    refine ⟨n, 0, rfl, hi n ((hb.1 n).2 rfl), p, ok, fun j u hj => ?_, by rw [hf]; intro f h; cases h⟩
    rw [← hc, List.getElem?_take] at hj
    split at hj
    · rw [List.getElem?_drop] at hj
      have := blk_cells hb _ _ hj
      rwa [Nat.zero_add] at this ⊢
    · cases hj
  · exact ha f (List.mem_cons_of_mem _ hf)
theorem Hp.addCl (H : Hp B S F w) {α : Type} (r : Rp α) {cs : List Value} {xs : List α} (hl : cs.length = xs.length * r.sz) (hx : ∀ i x, xs[i]? = some x → ∃ p, r.ok x p ∧ (cs.drop (i * r.sz)).take r.sz = r.cells x p ∧ r.facts x p = []) : Hp B S (Cl r cs xs :: F) w :=
  H.facts fun I ha f hf => by
    rcases List.mem_cons.1 hf with rfl | hf
    · exact ⟨hl, fun i x h => let ⟨p, a, b, c⟩ := hx i x h; ⟨p, a, b, by rw [c]; intro f h; cases h⟩⟩
    · exact ha f hf
theorem Hp.slNil {α : Type} (r : Rp α) (H : Hp B S F w) : Hp B S (Sl r (.slice none 0 0) [] :: F) w :=
  H.facts fun _ ha f hf => by
    rcases List.mem_cons.1 hf with rfl | hf
    · exact ⟨none, 0, rfl, Nat.le_refl _, by decide, fun _ => rfl, fun i x h => by simp at h⟩
    · exact ha f hf
theorem Hp.keep {L L' : List Asn} {F F' : List Fact} (H : Hp B L F w) [hp : Pick L S L'] [hs : SubF F F'] : Hp B S F' w :=
  Hp.facts (Hp.dropL L' S ((H.perm hp.perm).perm List.perm_append_comm)) fun _ ha => hs.all ha
theorem alloc_as (hT : T.Ok P) (H : Hp B S F w) {t : TypeId} {d : TypeDesc} {i : TypeInfo} {z : Value} (cs : List Value) (ht : T t = some ⟨d, i⟩) (hz : i.zero = some z) (hc : z.cells.toList = cs)
    (k : ∀ n w', Hp B (blk n cs t :: S) F w' → K (.pointer (some ⟨n, 0, none⟩)) w') : AllocK P K w t := by
  subst hc; exact alloc_rule hT H ht hz k
theorem store_as (hT : T.Ok P) (H : Hp B S F w) {n o : Nat} {cs : List Value} {t t0 : TypeId} {d : TD} {x : Value} (cs' : List Value) [hp : TakeB S n cs t0 S'] (ht : T t = some d) (hs : Nat.beq x.cells.toList.length d.info.size = true)
    (hl : Nat.ble (o + x.cells.toList.length) cs.length = true) (h1 : allOne x.cells.toList = true) (hc : setL cs o x.cells.toList = cs')
    (k : ∀ w', Hp B (blk n cs' t0 :: S') F w' → K undef w') : StoreK P K w t (.pointer (some ⟨n, o, none⟩)) x := by
  subst hc; exact store_rule hT H ht hs hl h1 k
/-- A literal is a row of one's own. -/
theorem Hp.toRow (H : Hp B S F w) {g : Nat} {cs : List Value} {e : TypeId} [h1 : TakeB S g cs e S'] (sz n : Nat) (hl : cs.length = n * sz) (hm : n ≤ 9223372036854775807) : Hp B (row e sz (.slice (some ⟨g, 0, none⟩) n n) n cs :: S') F w := by
  have hp' : Take S (blk g cs e) S' := ⟨h1.perm⟩
  refine H.step (A := blk g cs e) rfl rfl rfl (Nat.le_refl _) fun fa ha => ⟨fun _ _ _ => rfl, fa, ⟨⟨hl, .inr ⟨g, n, cs.toArray, rfl, Nat.zero_le _, ha.2, Nat.le_refl _, hm, by simpa using hl, ?_⟩⟩, fun b => ?_⟩, fun b hb => .inl hb⟩
  · rw [← hl]; simp
  · rw [ha.1 b]; simp [Value.ownBlock, eq_comm]
/-- The cells of a list. -/
theorem cells_of {α : Type} {r : Rp α} {I : BS} {b : Nat} : ∀ (xs : List α) (o : Nat), (∀ i x, xs[i]? = some x → r.At w I b (o + i * r.sz) x) → ∃ cs : List Value, cs.length = xs.length * r.sz ∧ CellsAt w b o cs ∧ ∀ i x, xs[i]? = some x → ∃ p, r.ok x p ∧ (cs.drop (i * r.sz)).take r.sz = r.cells x p ∧ All (r.facts x p) w I
  | [], o, _ => ⟨[], by simp, fun j v h => by simp at h, fun i x h => by simp at h⟩
  | x :: xs, o, h => by
    obtain ⟨p, hok, hc, hf⟩ := h 0 x rfl
    rw [Nat.zero_mul, Nat.add_zero] at hc
    obtain ⟨cs, hl, hcs, hx⟩ := cells_of xs (o + r.sz) fun i y hy => by
      have := h (i + 1) y (by simpa using hy)
      rwa [Nat.add_mul, Nat.one_mul, Nat.add_comm (i * r.sz), ← Nat.add_assoc] at this
    have hlen := r.len x p
    refine ⟨r.cells x p ++ cs, ?_, fun j v hj => ?_, fun i y hy => ?_⟩
    · rw [List.length_append, hlen, hl, List.length_cons, Nat.add_mul, Nat.one_mul, Nat.add_comm]
    · rcases Nat.lt_or_ge j r.sz with hjr | hjr
      · rw [List.getElem?_append_left (by omega)] at hj
        exact hc j v hj
      · rw [List.getElem?_append_right (by omega), hlen] at hj
        have := hcs _ v hj
        rwa [Nat.add_assoc, show r.sz + (j - r.sz) = j by omega] at this
    · cases i with
      | zero =>
        simp only [List.getElem?_cons_zero, Option.some.injEq] at hy
        subst hy
        refine ⟨p, hok, ?_, hf⟩
        rw [Nat.zero_mul, List.drop_zero, ← hlen, List.take_left]
      | succ i =>
        obtain ⟨q, h1, h2, h3⟩ := hx i y (by simpa using hy)
        refine ⟨q, h1, ?_, h3⟩
        rw [← h2, Nat.add_mul, Nat.one_mul, Nat.add_comm (i * r.sz), ← List.drop_drop, ← hlen, List.drop_left]
/-- **append(v, l..)**: v a row of one's own, l a slice that reads. -/
theorem append_sl (hT : T.Ok P) (H : Hp B S F w) {e sz n m c : Nat} {A : Option Addr} {v : Value} {cs : List Value} {S1 : List Asn} {t ty : TypeId} {it : TypeInfo} {de : TD} {z : Value} {α : Type} {r : Rp α} {xs : List α} [h1 : TakeR S v e sz n cs S1] [h2 : InSl F A m c r xs]
    {cst : List Bool} (ht : T t = some ⟨.slice e, it⟩) (he : T e = some de) (hz : de.info.zero = some z) (hzs : Nat.beq z.cells.size sz = true) (hsz : Nat.beq de.info.size sz = true) (hp : Nat.ble 1 sz = true) (hr : sz = r.sz) (ho : ∀ x p, r.ok x p → ∀ u, u ∈ r.cells x p → u.oneCell' = true)
    (hb : (n + m) * de.info.bytes ≤ 140737488355328) (hm : n + m ≤ 140737488355328)
    (k : ∀ A' c' news w', Hp B (row e sz (.slice A' (n + m) c') (n + m) (cs ++ news) :: S1) (Cl r news xs :: F) w' → K (.slice A' (n + m) c') w') : BuiltinK P K w .append [t, t] ty cst [v, .slice A m c] := by
  have H1 := H.perm h1.perm
  obtain ⟨fa, hfa⟩ := Hp.own (A := row e sz v n cs) (S' := S1) (hp := ⟨.refl _⟩) H1
  have hsz' := Nat.eq_of_beq_eq_true hsz
  have fin : ∀ v' w' news, (∀ I, All F w I → (Cl r news xs).holds w I) → w'.ownsRow 0 e sz v' (n + m) (cs ++ news) → w.grownBy w' v.ownBlock → (v'.ownBlock = v.ownBlock ∨ v'.ownBlock = some w.heap.size) → (Builtin.append_ #[t, t] ty #[v, .slice A m c]).run P w = .ok v' w' → BuiltinK P K w .append [t, t] ty cst [v, .slice A m c] := by
    intro v' w' news hcl hown hg hat hr
    have H2 : Hp B (row e sz v n cs :: S1) (Cl r news xs :: F) w := H1.facts fun I ha f hf => by
      rcases List.mem_cons.1 hf with rfl | hf
      · exact hcl I ha
      · exact ha f hf
    have H3 : Hp B (row e sz v' (n + m) (cs ++ news) :: S1) (Cl r news xs :: F) w' := by
      refine Hp.step (A := row e sz v n cs) (hp := ⟨.refl _⟩) H2 hg.os hg.tape hg.output hg.size fun fa ha => ⟨fun k hk hn => hg.block k hk fun e => hn ((ha.2 k).2 e.symm), fun k => v'.ownBlock = some k, ⟨hown, fun _ => Iff.rfl⟩, fun k hk => ?_⟩
      rcases hat with h | h
      · exact .inl ((ha.2 k).2 (h ▸ hk))
      · rw [h] at hk
        injection hk with hk
        subst hk
        exact .inr (Nat.le_refl _)
    obtain ⟨A', c', rfl, _⟩ := row_shape (w := w') (fp := fun k => v'.ownBlock = some k) ⟨hown, fun _ => Iff.rfl⟩
    refine BuiltinK.of (v := .slice A' (n + m) c') (w' := w') ?_ (k A' c' news w' H3)
    simp only [builtin]
    rw [Sem.run_bind]
    have hr' : (Builtin.append_ [t, t].toArray ty [v, .slice A m c].toArray).run P w = .ok (.slice A' (n + m) c') w' := hr
    rw [hr']; rfl
  have hF : ∀ I, All F w I → ∃ A' c', (Value.slice A m c) = .slice A' xs.length c' ∧ xs.length ≤ c' ∧ c' ≤ 9223372036854775807 ∧ (A' = none → c' = 0) ∧ ∀ (i : Nat) x, xs[i]? = some x → ∃ b o, A' = some ⟨b, o, none⟩ ∧ I b ∧ r.At w I b (o + i * r.sz) x := fun I ha => ha _ h2.mem
  obtain ⟨I0, fp0, hs0, ha0, _⟩ := H.ex
  obtain ⟨A', c', e1, _, _, hA0, hel⟩ := hF I0 ha0
  injection e1 with e1 e2 e3
  subst e1 e2 e3
  cases xs with
  | nil =>
    have hcl : ∀ I, All F w I → (Cl r ([] : List Value) ([] : List α)).holds w I := fun I _ => ⟨by simp, fun i x h => by simp at h⟩
    cases A with
    | none =>
      obtain rfl := hA0 rfl
      refine fin v w [] hcl (by simpa using hfa.1) ⟨rfl, rfl, rfl, Nat.le_refl _, fun _ _ _ => rfl⟩ (.inl rfl) ?_
      exact run_append_owned_none (P := P) w 0 t ty e de.info sz (hT t _ ht).1 (hT e _ he).2 v n cs hfa.1
    | some a =>
      obtain ⟨v', w', hrun, hown, hg, _, hat⟩ := run_append_own_at (P := P) w 0 t ty e de.info z sz de.info.bytes (hT t _ ht).1 (hT e _ he).2 hz hsz' rfl (Nat.eq_of_beq_eq_true hzs) (Nat.le_of_ble_eq_true hp) v n cs hfa.1 a ([] : List α).length c [] (by simp)
        (fun j u hj => by simp at hj) (fun u hu => by cases hu) (by unfold maxLen; omega) hb (Nat.zero_le _)
      exact fin v' w' [] hcl hown hg hat hrun
  | cons x xs =>
    obtain ⟨b, o, rfl, _, _⟩ := hel 0 x rfl
    have hcells : ∀ I, All F w I → ∃ cs : List Value, cs.length = (x :: xs).length * r.sz ∧ CellsAt w b o cs ∧ ∀ i y, (x :: xs)[i]? = some y → ∃ p, r.ok y p ∧ (cs.drop (i * r.sz)).take r.sz = r.cells y p ∧ All (r.facts y p) w I := fun I ha => by
      obtain ⟨A2, c2, e4, _, _, _, hel2⟩ := hF I ha
      injection e4 with e4 e5 e6
      subst e4 e6
      refine cells_of _ o fun i y hy => ?_
      obtain ⟨b', o', e7, _, hat⟩ := hel2 i y hy
      injection e7 with e7
      injection e7 with e7 e8
      subst e7 e8
      exact hat
    obtain ⟨news, hl, hcs, hx⟩ := hcells I0 ha0
    have hcl : ∀ I, All F w I → (Cl r news (x :: xs)).holds w I := fun I ha => by
      obtain ⟨news', hl', hcs', hx'⟩ := hcells I ha
      obtain rfl : news' = news := by
        apply List.ext_getElem (by omega)
        intro i h1 h2
        have q1 := hcs' i _ (List.getElem?_eq_getElem h1)
        have q2 := hcs i _ (List.getElem?_eq_getElem h2)
        rw [q1] at q2
        exact Option.some.inj q2
      exact ⟨hl, hx'⟩
    have hone : ∀ u, u ∈ news → u.oneCell' = true := fun u hu => by
      obtain ⟨j, hj, rfl⟩ := List.mem_iff_getElem.1 hu
      have hsz0 : 0 < r.sz := by rw [← hr]; exact Nat.le_of_ble_eq_true hp
      have hi : j / r.sz < (x :: xs).length := by rw [Nat.div_lt_iff_lt_mul hsz0, ← hl]; exact hj
      obtain ⟨p, hok, hce, _⟩ := hx (j / r.sz) _ (List.getElem?_eq_getElem hi)
      refine ho _ p hok _ ?_
      rw [← hce]
      have hmod := Nat.mod_lt j hsz0
      have hdm : j / r.sz * r.sz + j % r.sz = j := Nat.div_add_mod' j r.sz
      refine List.mem_iff_getElem?.2 ⟨j % r.sz, ?_⟩
      rw [List.getElem?_take, if_pos hmod, List.getElem?_drop, hdm, List.getElem?_eq_getElem hj]
    obtain ⟨v', w', hrun, hown, hg, _, hat⟩ := run_append_own_at (P := P) w 0 t ty e de.info z sz de.info.bytes (hT t _ ht).1 (hT e _ he).2 hz hsz' rfl (Nat.eq_of_beq_eq_true hzs) (Nat.le_of_ble_eq_true hp) v n cs hfa.1 ⟨b, o, none⟩ (x :: xs).length c news (by rw [hl, hr])
      (fun j u hj => by rw [add_plain]; exact hcs j u hj) hone (by unfold maxLen; omega) hb (Nat.zero_le _)
    exact fin v' w' news hcl hown hg hat hrun
theorem addr_zero (a : Addr) : a.add 0 = a := by
  unfold Addr.add
  split <;> simp_all
/-- v[:k] of a slice that reads. -/
theorem slice_sl (hT : T.Ok P) (H : Hp B S F w) {A : Option Addr} {n c k : Nat} {t : TypeId} {α : Type} {r : Rp α} {xs : List α} {hi : Value} {kd : IntKind} {e : TypeId} {it : TypeInfo} [h2 : InSl F A n c r xs] {de : TD} (ht : T t = some ⟨.slice e, it⟩) (hte : T e = some de) (hhi : hi = .int kd k) (hk : k ≤ n)
    (kk : Hp B S (Sl r (.slice A k c) (xs.take k) :: F) w → K (.slice A k c) w) : SliceK P K w t (.slice A n c) none (some hi) none := by
  subst hhi
  obtain ⟨hnx, hc, hc2⟩ := H.sll (A := A) (n := n) (c := c)
  refine SliceK.of (v := .slice A k c) (w' := w) ?_ (kk (H.facts fun I ha f hf => ?_))
  · have hel : P.underlying t = some (.slice (P.elem t)) := by unfold Program.elem; rw [(hT t _ ht).1]
    have he : P.elem t = e := by unfold Program.elem; rw [(hT t _ ht).1]
    have hs : ∃ s, (sizeOf (P.elem t)).run P w = .ok s w := by rw [he]; exact ⟨_, run_szOf hT hte w⟩
    obtain ⟨s, hs⟩ := hs
    rw [run_sliceAt_slice w t _ _ _ _ hel, run_slice_h w t A n c hel kd k (by omega) (by omega), hs]
    simp only [Result.andThen_ok, sliced, Int.toNat_natCast, Nat.zero_mul, Nat.sub_zero]
    congr 2
    split
    · rfl
    · cases A with
      | none => rfl
      | some a => exact congrArg some (addr_zero a)
  · rcases List.mem_cons.1 hf with rfl | hf
    · obtain ⟨A', c', e1, q1, q2, q3, q4⟩ := ha _ h2.mem
      injection e1 with e1 e2 e3
      subst e1 e3
      refine ⟨A, c, by rw [List.length_take, Nat.min_eq_left (by omega)], by rw [List.length_take]; omega, hc2, q3, fun i x hx => q4 i x ?_⟩
      rw [List.getElem?_take] at hx
      split at hx
      · exact hx
      · cases hx
    · exact ha f hf
/-- Where the elements of a slice lie that reads. -/
theorem Hp.slAt (H : Hp B S F w) {A : Option Addr} {n c : Nat} {α : Type} {r : Rp α} {xs : List α} [hp : InSl F A n c r xs] (h : 0 < n) : ∃ b o, A = some ⟨b, o, none⟩ := by
  obtain ⟨I, fp, _, ha, _⟩ := H.ex
  obtain ⟨A', c', e1, _, _, _, q4⟩ := ha _ hp.mem
  injection e1 with e1 e2 e3
  subst e1 e2 e3
  obtain ⟨x, hx⟩ : ∃ x, xs[0]? = some x := ⟨xs[0]'h, List.getElem?_eq_getElem _⟩
  obtain ⟨b, o, rfl, _⟩ := q4 0 x hx
  exact ⟨b, o, rfl⟩
/-- Reading an element, or a part of it, in place. -/
theorem sl_ld (hT : T.Ok P) (H : Hp B S F w) {b o n c j f off : Nat} {α : Type} {r : Rp α} {xs : List α} {x : α} {t : TypeId} (v : Value) [hp : InSl F (some ⟨b, o, none⟩) n c r xs] (hx : xs[j]? = some x) (hoff : off = o + j * r.sz + f)
    (hv : ∀ p, r.ok x p → ldV (T t) (r.cells x p) f = some v) (k : K v w) : LoadK P K w t (.pointer (some ⟨b, off, none⟩)) := by
  obtain ⟨I, fp, _, ha, _⟩ := H.ex
  obtain ⟨A', c', e1, _, _, _, q4⟩ := ha _ hp.mem
  injection e1 with e1 e2 e3
  subst e1
  obtain ⟨b', o', e4, _, p, hok, hc, _⟩ := q4 j x hx
  injection e4 with e4
  injection e4 with e4 e5
  subst e4 e5 hoff
  exact (hc.of_ld hT (hv p hok)).load k
end
end Go.Wk
set_option linter.unusedVariables false
namespace Go.Wk
section
variable {P : Program} {T : Tab} {K : Value → World → Prop} {w : World} {B : Base} {S S' : List Asn} {F : List Fact}
theorem rem_rule {t : TypeId} {ox oy : Operand} {k : IntKind} {x y : Int} (hy : y ≠ 0) (h : K (.int k (x.tmod y)) w) : BinK P K w .rem t ox oy (.int k x) (.int k y) := by
  refine BinK.of ?_ h
  simp [binS, eqGuard, binOp, Op.intDiv, hy]
theorem rem_as {t : TypeId} {ox oy : Operand} {k : IntKind} {x y : Int} (v : Int) (hy : y ≠ 0) (hv : x.tmod y = v) (h : K (.int k v) w) : BinK P K w .rem t ox oy (.int k x) (.int k y) := by
  subst hv; exact rem_rule hy h
/-- A row that isn't empty lies in a block. -/
theorem Hp.rowSome (H : Hp B S F w) {A : Option Addr} {n c e sz : Nat} {cs : List Value} [hp : TakeR S (.slice A n c) e sz n cs S'] (hn : n ≠ 0) : ∃ b, A = some ⟨b, 0, none⟩ := by
  obtain ⟨fa, ha⟩ := H.own (A := row e sz (.slice A n c) n cs) (hp := ⟨hp.perm⟩)
  obtain ⟨A1, c1, e1, _, _, hb⟩ := row_shape ha
  injection e1 with e1 e2 e3
  subst e1
  exact hb hn
end
end Go.Wk
/- Calls of functions that the model itself answers; methods of interface values; package-level variables that nobody writes. -/
set_option linter.unusedVariables false
namespace Go.Wk
section
variable {P : Program} {T : Tab} {K : Value → World → Prop} {w : World} {B : Base} {S S' : List Asn} {F : List Fact}
theorem CallK_ext {g : Nat} {fn : Func} {e : Array Value → Sem Value} {args : List Value} {v : Value} {w' : World} (hf : P.funcs[g]? = some fn) (hname : (fn.name == "runtime.NumGoroutine") = false)
    (hb : fn.body.isNone = true) (hn : Extern.findNext fn = none) (he : Extern.find fn = some e) (hr : (e args.toArray).run P w = .ok v w') (k : K v w') : CallK P K w (.func (.func g) #[] #[]) args := by
  refine ⟨?_⟩
  have h := run_callFunc_extern hf hname hb hn he args.toArray w
  rw [hr] at h
  unfold NK
  simp only [Deferred.ofValue, invoke, Sem.run_bind, Sem.run_pure, Result.andThen_ok, Array.append_empty, Array.empty_append]
  rw [h]
  exact k
theorem InvokeK_ext {t : TypeId} {x r : Value} {m : String} {g : Nat} {fn : Func} {e : Array Value → Sem Value} {args : List Value} {v : Value} {w' : World} (hm : (Go.method (P.types.size + Made.depth) t x m).run P w = .ok (g, r) w) (hf : P.funcs[g]? = some fn) (hname : (fn.name == "runtime.NumGoroutine") = false)
    (hb : fn.body.isNone = true) (hn : Extern.findNext fn = none) (he : Extern.find fn = some e) (hr : (e (#[r] ++ args.toArray)).run P w = .ok v w') (k : K v w') : InvokeK P K w (.iface t x) m args := by
  refine ⟨?_⟩
  have h := run_callFunc_extern hf hname hb hn he (#[r] ++ args.toArray) w
  rw [hr] at h
  have ha : (#[Value.iface t x] ++ args.toArray).extract 1 (#[Value.iface t x] ++ args.toArray).size = args.toArray := by simp
  have hz : (#[Value.iface t x] ++ args.toArray)[0]? = some (.iface t x) := by simp
  have hp : (program).run P w = .ok P w := rfl
  unfold NK
  simp only [invoke, hz, ha, callMethod, Sem.run_bind, hp, Result.andThen_ok, hm]
  rw [h]
  exact k
theorem InvokeK_fn {t : TypeId} {x r : Value} {m : String} {g : Nat} {args : List Value} (hm : (Go.method (P.types.size + Made.depth) t x m).run P w = .ok (g, r) w) (h : Exe P g (r :: args) w K) : InvokeK P K w (.iface t x) m args := by
  refine ⟨?_⟩
  have ha : (#[Value.iface t x] ++ args.toArray).extract 1 (#[Value.iface t x] ++ args.toArray).size = args.toArray := by simp
  have hz : (#[Value.iface t x] ++ args.toArray)[0]? = some (.iface t x) := by simp
  have hp : (program).run P w = .ok P w := rfl
  have hc : #[r] ++ args.toArray = (r :: args).toArray := by simp
  unfold NK
  simp only [invoke, hz, ha, callMethod, Sem.run_bind, hp, Result.andThen_ok, hm, hc, h.1]
  exact h.2
/-- A package-level variable of one cell that nobody writes. -/
def Glob (g : Nat) (v : Value) : Fact where
  holds w I := I g ∧ w.cell? ⟨g, 0, none⟩ = some v
  mono := fun ⟨h1, h2⟩ hI hw => ⟨hI _ h1, by rw [← h2]; simp only [World.cell?, hw _ h1]⟩
theorem glob_rule (hT : T.Ok P) (H : Hp B S F w) {g : Nat} (v : Value) [hp : InF F (Glob g v)] {t : TypeId} {d : TD} (ht : T t = some d) (ha : isAggD d.desc = false) (k : K v w) : LoadK P K w t (.pointer (some ⟨g, 0, none⟩)) := by
  obtain ⟨I, h⟩ := H.fact (f := Glob g v)
  exact (LdV.one hT ht ha h.2).load k
/-- Nothing is said. -/
def ttF : Fact := ⟨fun _ _ => True, fun _ _ _ => trivial⟩
theorem Hp.addTt (H : Hp B S F w) : Hp B S (ttF :: F) w := H.facts fun I ha f hf => by
  rcases List.mem_cons.1 hf with rfl | hf
  · trivial
  · exact ha f hf
theorem AssertK.run {x : Value} {t a : TypeId} {ok : Bool} {v : Value} (h : (Instr.typeAssert x t a ok).run P w = .ok v w) (k : K v w) : AssertK P K w x t a ok := AssertK.of h k
end
end Go.Wk
/- Parts of a slice that reads; elements that are slices themselves. -/
set_option linter.unusedVariables false
namespace Go.Wk
section
variable {P : Program} {T : Tab} {K : Value → World → Prop} {w : World} {B : Base} {S S' : List Asn} {F : List Fact}
end
end Go.Wk
/- Maps whose keys are structs; entries that are struck. -/
set_option linter.unusedVariables false
set_option linter.unusedSimpArgs false
namespace Go.Wk
section
variable {P : Program} {T : Tab}
theorem leaf_chk (hT : T.Ok P) {t : TypeId} {x y : Value} {r : Bool} (h : leafEq (T t) x y = some r) (b : Bool) (d : Nat) (w : World) : (Instr.checkKey b (d + 1) t x).run P w = .ok () w := by
  unfold leafEq at h
  split at h
  all_goals first | (rename_i ht; simp only [Instr.checkKey, Sem.run_bind, run_und hT ht, Result.andThen_ok, Sem.run_pure]; done) | cases h
theorem forM_fields (hT : T.Ok P) {xs ys : Array Value} (b : Bool) (d : Nat) : ∀ {fs : List Field} {r : Bool}, fEq T xs ys fs = some r → ∀ w, (forIn fs PUnit.unit fun f _ => (if f.name ≠ "_" then do
        let x ← part f.type xs f.offset
        Instr.checkKey b (d + 1) f.type x
        pure (ForInStep.yield PUnit.unit)
      else pure (ForInStep.yield PUnit.unit) : Sem (ForInStep PUnit))).run P w = .ok PUnit.unit w
  | [], r, h, w => by simp
  | f :: fs, r, h, w => by
    unfold fEq at h
    cases hn : f.name == "_" with
    | true => rw [hn] at h; cases h
    | false =>
      rw [hn] at h
      simp only [cond_false] at h
      cases ha : partV (T f.type) xs f.offset with
      | none => rw [ha] at h; cases h
      | some a =>
        cases hb : partV (T f.type) ys f.offset with
        | none => rw [ha, hb] at h; cases h
        | some b' =>
          rw [ha, hb] at h
          simp only at h
          cases hl : leafEq (T f.type) a b' with
          | none => rw [hl] at h; cases h
          | some r1 =>
            cases hs : fEq T xs ys fs with
            | none => rw [hl, hs] at h; cases h
            | some s =>
              have ih := forM_fields hT (xs := xs) (ys := ys) b d hs w
              have hne : f.name ≠ "_" := by simpa using hn
              simp only [List.forIn_cons, Sem.run_bind, hne, ne_eq, not_false_eq_true, if_true, run_part hT ha, Result.andThen_ok, leaf_chk hT hl, Sem.run_pure]
              exact ih
theorem struct_keys (hT : T.Ok P) {kt : TypeId} {fs : Array Field} {i : TypeInfo} {κ : Type} [DecidableEq κ] {kf : κ → Value} (xs : κ → Array Value) (hkf : ∀ k, kf k = .agg (xs k)) (ht : T kt = some ⟨.struct fs, i⟩) (hs : P.stoodInHeld kt = false)
    (he : ∀ a b, ∃ r, fEq T (xs a) (xs b) fs.toList = some r ∧ (r = true ↔ a = b)) (hb : ∀ k, Instr.sameBits 10000 (.agg (xs k)) (.agg (xs k)) = true) : Keys P kt kf where
  chk := fun b k w => by
    obtain ⟨r, hr, _⟩ := he k k
    rw [hkf]
    show (Instr.checkKey b (9998 + 1 + 1) kt (.agg (xs k))).run P w = _
    generalize 9998 = d
    rw [Instr.checkKey]
    simp only [Sem.run_bind, run_und hT ht, Result.andThen_ok]
    have := forM_fields hT (xs := xs k) (ys := xs k) b d hr w
    rw [← Array.forIn_toList]
    have e : ∀ s : Sem PUnit, s.run P w = .ok PUnit.unit w → ((s.run P w).andThen fun _ w' => Sem.run P (pure ()) w') = .ok () w := fun s h => by rw [h]; rfl
    exact e _ this
  find := fun {ν} vf k l es w h => by
    have hf : P.fieldsOf kt = fs := by unfold Program.fieldsOf; rw [(hT kt _ ht).1]
    have eqr : ∀ a b : κ, (Op.equal kt (kf a) (kf b)).run P w = .ok (decide (a = b)) w := fun a b => by
      obtain ⟨r, hr, hr2⟩ := he a b
      have := run_equalIn_struct (P := P) w 9999 kt (xs a) (xs b) (by rw [hf]; exact (hT kt _ ht).1) hs
      rw [hf, fEq_sound hT (d := 9998) hr] at this
      rw [hkf, hkf]
      have hd : decide (a = b) = r := by
        rw [Bool.eq_iff_iff, decide_eq_true_eq]; exact hr2.symm
      rw [hd]
      exact this
    have key : ∀ (l : List (κ × ν)) (es : List MapEntry) (i : Nat), es.map (fun e => (e.key, e.val)) = l.map (fun p => (kf p.1, vf p.2)) → (Instr.findAsking kt (kf k) es i).run P w = .ok ((lkI k l i).map fun q => (q.1, vf q.2)) w := by
      intro l
      induction l with
      | nil => intro es i h; cases es with
        | nil => rfl
        | cons _ _ => cases h
      | cons p l ih =>
        intro es i h
        cases es with
        | nil => cases h
        | cons e es =>
          simp only [List.map_cons, List.cons.injEq, Prod.mk.injEq] at h
          obtain ⟨⟨h1, h2⟩, h3⟩ := h
          unfold Instr.findAsking lkI
          simp only [Sem.run_bind, h1, eqr, Result.andThen_ok]
          by_cases hk : k = p.1
          · subst hk
            simp [h2]
          · have hk' : ¬ p.1 = k := fun h => hk h.symm
            simp only [hk, decide_false, Bool.false_eq_true, if_false, hk']
            exact ih es (i + 1) h3
    have now : ∀ (es : List MapEntry) (i : Nat), Instr.findNow (.struct fs) (kf k) es i = none ∨ es = [] := fun es i => by
      cases es with
      | nil => exact .inr rfl
      | cons e es => left; unfold Instr.findNow; rw [hkf]; rfl
    simp only [Instr.findKey, Sem.run_bind, run_und hT ht, Result.andThen_ok]
    rcases now es 0 with hn | rfl
    · rw [hn]; exact key l es 0 h
    · cases l with
      | nil => rfl
      | cons _ _ => cases h
  same := fun k => by rw [hkf]; exact hb k
end
theorem map_erase {α β : Type} (f : α → β) : ∀ (l : List α) (i : Nat), (l.eraseIdx i).map f = (l.map f).eraseIdx i
  | [], i => by simp
  | x :: l, 0 => by simp
  | x :: l, i + 1 => by simp [map_erase f l i]
/-- An entry struck. -/
def delL {κ ν : Type} [DecidableEq κ] (k : κ) : List (κ × ν) → List (κ × ν)
  | [] => []
  | p :: l => if p.1 = k then l else p :: delL k l
theorem delL_none {κ ν : Type} [DecidableEq κ] (k : κ) : ∀ (l : List (κ × ν)) (i : Nat), lkI k l i = none → delL k l = l
  | [], _, _ => rfl
  | p :: l, i, h => by
    unfold lkI at h
    unfold delL
    split at h
    · cases h
    · rename_i hp
      rw [if_neg hp, delL_none k l _ h]
theorem delL_some {κ ν : Type} [DecidableEq κ] (k : κ) : ∀ (l : List (κ × ν)) (i j : Nat) (u : ν), lkI k l i = some (j, u) → delL k l = l.eraseIdx (j - i)
  | [], _, _, _, h => by cases h
  | p :: l, i, j, u, h => by
    have hg := lkI_ge k (p :: l) i j u h
    unfold lkI at h
    unfold delL
    split at h
    · rename_i hp
      simp only [Option.some.injEq, Prod.mk.injEq] at h
      rw [if_pos hp, ← h.1, Nat.sub_self]; rfl
    · rename_i hp
      have hg2 := lkI_ge k l (i + 1) j u h
      rw [if_neg hp, delL_some k l _ _ _ h, show j - i = (j - (i + 1)) + 1 by omega]
      rfl
section
variable {P : Program} {T : Tab} {K : Value → World → Prop} {w : World} {B : Base} {S S' : List Asn} {F : List Fact} {κ ν : Type} [DecidableEq κ] {kf : κ → Value} {vf : ν → Value} {n : Nat} {l : List (κ × ν)}
theorem delete_rule (hT : T.Ok P) (H : Hp B S F w) [hp : TakeM S n kf vf l S'] {t t2 ty kt et : TypeId} {i : TypeInfo} {cst : List Bool} {k : κ} {x : Value} (ht : T t = some ⟨.map kt et, i⟩) (hk : Keys P kt kf) (hx : x = kf k)
    (kk : ∀ w', Hp B (mapO n kf vf (delL k l) :: S') F w' → K (.tuple #[]) w') : BuiltinK P K w .delete [t, t2] ty cst [.map (some n), x] := by
  subst hx
  have hp' : Take S (mapO n kf vf l) S' := ⟨hp.perm⟩
  obtain ⟨fa, _, es, clock, h1, h2, h3, h4⟩ := H.own (A := mapO n kf vf l)
  have hg : (getObj n).run P w = .ok (.map es clock) w := by simp [getObj, Sem.run, h1]
  have hset : ∀ es' c', (setObj n (.map es' c')).run P w = .ok () (World.setBlk w n (.map es' c')) := fun es' c' => by
    simp [setObj, Sem.run, h1, World.setBlk]
  have hlen : es.toList.length = l.length := by simpa using congrArg List.length h2
  have step : ∀ es' c', es'.toList.map (fun e => (e.key, e.val)) = (delL k l).map (fun p => (kf p.1, vf p.2)) → (∀ e ∈ es'.toList, e.born < c') → (es'.toList.map MapEntry.born).Nodup → Hp B (mapO n kf vf (delL k l) :: S') F (World.setBlk w n (.map es' c')) := fun es' c' e1 e2 e3 =>
    H.step (A := mapO n kf vf l) rfl rfl rfl (by simp [World.setBlk]) fun fa ha => ⟨fun b _ hb => heap_setBlk_ne w _ fun e => hb ((ha.1 b).2 e), fa, ⟨ha.1, es', c', heap_setBlk_at w h1, e1, e2, e3⟩, fun b hb => .inl hb⟩
  cases hl : lkI k l 0 with
  | none =>
    refine BuiltinK.of (v := .tuple #[]) (w' := World.setBlk w n (.map es clock)) ?_ (kk _ (step _ _ ?_ h3 h4))
    · simp only [builtin, Builtin.delete_, Sem.run_bind]
      simp [run_und hT ht, hg, hk.chk, hk.find vf k l es.toList w h2, hl, hset]
    · rw [delL_none k l 0 hl]; exact h2
  | some q =>
    obtain ⟨j, u⟩ := q
    have hj := lkI_ge k l 0 j u hl
    have he : (es.eraseIdxIfInBounds j).toList = es.toList.eraseIdx j := by simp
    refine BuiltinK.of (v := .tuple #[]) (w' := World.setBlk w n (.map (es.eraseIdxIfInBounds j) clock)) ?_ (kk _ (step _ _ ?_ ?_ ?_))
    · simp only [builtin, Builtin.delete_, Sem.run_bind]
      simp [run_und hT ht, hg, hk.chk, hk.find vf k l es.toList w h2, hl, hset]
    · rw [delL_some k l 0 j u hl, Nat.sub_zero, he, map_erase, h2, map_erase]
    · intro e hm
      rw [he] at hm
      exact h3 e (List.mem_of_mem_eraseIdx hm)
    · rw [he, map_erase]
      exact h4.sublist (List.eraseIdx_sublist _ _)
end
end Go.Wk
