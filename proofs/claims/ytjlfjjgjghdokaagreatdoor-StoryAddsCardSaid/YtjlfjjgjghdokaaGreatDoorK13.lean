/- A map's entry is made or found, and its value stored: for a key that isn't there yet. -/
import Derived.Test.YtjlfjjgjghdokaaGreatDoorK4
set_option linter.unusedVariables false
set_option linter.unusedSimpArgs false
namespace Go.Wk
open Go.ChangeMaps (setBlock)
/-- A map of the call's own in which an entry was just made, of the stamp c. -/
def mapN (n : Nat) {κ ν : Type} (kf : κ → Value) (vf : ν → Value) (l : List (κ × ν)) (k : κ) (z : ν) (c : Nat) : Asn where
  at_ w fp := (∀ b, fp b ↔ b = n) ∧ ∃ es clock, w.heap[n]? = some (.map es clock) ∧ es.toList.map (fun e => (e.key, e.val)) = (l ++ [(k, z)]).map (fun p => (kf p.1, vf p.2)) ∧ (∀ e ∈ es.toList, e.born < clock) ∧ (es.toList.map MapEntry.born).Nodup ∧ (es.toList.map MapEntry.born)[l.length]? = some c
  loc := fun h k => by
    obtain ⟨h1, es, clock, h2, r⟩ := h
    exact ⟨h1, es, clock, by rw [k n ((h1 n).2 rfl)]; exact h2, r⟩
  lt := fun ⟨h1, es, clock, h2, _⟩ hb => by rw [(h1 _).1 hb]; exact (Array.getElem?_eq_some_iff.1 h2).1
theorem lkI_app {κ ν : Type} [DecidableEq κ] {k : κ} {z : ν} : ∀ {l : List (κ × ν)} {i : Nat}, lkI k l i = none → lkI k (l ++ [(k, z)]) i = some (i + l.length, z)
  | [], i, _ => by show (if k = k then _ else _) = _; rw [if_pos rfl]; rfl
  | p :: l, i, h => by
    unfold lkI at h
    split at h
    · cases h
    · rename_i hp
      show (if p.1 = k then _ else lkI k (l ++ [(k, z)]) (i + 1)) = _
      rw [if_neg hp, lkI_app h, List.length_cons]
      congr 2
      omega
section
variable {P : Program} {T : Tab} {K : Value → World → Prop} {w : World} {B : Base} {S S' : List Asn} {F : List Fact} {κ ν : Type}
variable {kf : κ → Value} {vf : ν → Value} {n : Nat} {l : List (κ × ν)}
theorem entryStore_new (H : Hp B S F w) {k : κ} {z : ν} {c : Nat} [hp : Take S (mapN n kf vf l k z c) S'] {t : TypeId} {v : ν} {y : Value} (hy : y = vf v) (kk : ∀ w', Hp B (mapO n kf vf (l ++ [(k, v)]) :: S') F w' → K undef w') : EntryStoreK P K w t (.map (some n)) (.int .i64 (c : Int)) y := by
  subst hy
  obtain ⟨fa, _, es, clock, h1, h2, h3, h4, h5⟩ := H.own (A := mapN n kf vf l k z c)
  have hg : (getObj n).run P w = .ok (.map es clock) w := by simp [getObj, Sem.run, h1]
  have hset : ∀ es' c', (setObj n (.map es' c')).run P w = .ok () (World.setBlk w n (.map es' c')) := fun es' c' => by
    simp [setObj, Sem.run, h1, World.setBlk]
  have hlen : es.toList.length = l.length + 1 := by simpa using congrArg List.length h2
  have hl : l.length < es.toList.length := by omega
  have hbl : (es.toList[l.length]'hl).born = c := by
    rw [List.getElem?_map, List.getElem?_eq_getElem hl] at h5
    exact Option.some.inj h5
  have hfi : es.findIdx? (fun e => (e.born : Int) == (c : Int)) = some l.length := by
    cases hq : es.findIdx? (fun e => (e.born : Int) == (c : Int)) with
    | none =>
      rw [Array.findIdx?_eq_none_iff] at hq
      have := hq (es.toList[l.length]'hl) (by simp)
      rw [hbl] at this
      simp at this
    | some j =>
      rw [Array.findIdx?_eq_some_iff_getElem] at hq
      obtain ⟨hj, hb, _⟩ := hq
      have hb : (es[j]).born = c := by
        have : ((es[j]).born : Int) = (c : Int) := by simpa using hb
        exact Int.ofNat_inj.1 this
      have e1 : (es.toList.map MapEntry.born)[j]? = some c := by
        rw [List.getElem?_map, Array.getElem?_toList, Array.getElem?_eq_getElem hj]
        exact congrArg some hb
      congr 1
      exact (List.getElem?_inj (by rw [List.length_map]; simpa using hj) h4).1 (e1.trans h5.symm)
  refine EntryStoreK.of (w' := World.setBlk w n (.map (es.modify l.length fun e => { e with val := vf v }) clock)) ?_ (kk _ ?_)
  · simp only [Instr.entryStore, Sem.run_bind, hg, asInt, asIntOf, Sem.run_pure, Result.andThen_ok]
    rw [hfi]
    exact hset _ _
  · refine H.step (A := mapN n kf vf l k z c) rfl rfl rfl (by simp [World.setBlk]) fun fa ha => ⟨fun b _ hb => heap_setBlk_ne w _ fun e => hb ((ha.1 b).2 e), fa, ⟨ha.1, _, _, heap_setBlk_at w h1, ?_, ?_, ?_⟩, fun b hb => .inl hb⟩
    · rw [Array.toList_modify, List.map_append]
      apply List.ext_getElem?
      intro j
      have hm : (es.toList[j]?).map (fun e => (e.key, e.val)) = (l.map (fun p => (kf p.1, vf p.2)) ++ [(kf k, vf z)])[j]? := by rw [← List.getElem?_map, h2, List.map_append]; rfl
      rw [List.getElem?_map, List.getElem?_modify]
      rcases Nat.lt_trichotomy j l.length with q | q | q
      · rw [List.getElem?_append_left (by rw [List.length_map]; exact q)] at hm ⊢
        rw [← hm]
        cases es.toList[j]? with
        | none => rfl
        | some e => simp [show ¬ l.length = j by omega]
      · subst q
        rw [List.getElem?_append_right (by rw [List.length_map]; exact Nat.le_refl _), List.length_map, Nat.sub_self] at hm ⊢
        cases hq : es.toList[l.length]? with
        | none => rw [hq] at hm; cases hm
        | some e =>
          rw [hq] at hm
          have hm : (e.key, e.val) = (kf k, vf z) := Option.some.inj hm
          have h6 : e.key = kf k := congrArg Prod.fst hm
          simp [h6]
      · rw [List.getElem?_eq_none (l := List.map (fun p => (kf p.1, vf p.2)) l ++ List.map (fun p => (kf p.1, vf p.2)) [(k, v)]) (by rw [List.length_append, List.length_map, List.length_map]; exact q)]
        rw [List.getElem?_eq_none (show es.toList.length ≤ j by omega)]
        rfl
    · intro e he
      rw [Array.toList_modify] at he
      obtain ⟨i, hi⟩ := List.mem_iff_getElem?.1 he
      rw [List.getElem?_modify] at hi
      cases hq : es.toList[i]? with
      | none => rw [hq] at hi; simp at hi
      | some e0 =>
        have := h3 e0 (List.mem_iff_getElem?.2 ⟨i, hq⟩)
        rw [hq] at hi
        simp only [Option.map_eq_map, Option.map_some, Option.some.injEq] at hi
        subst hi
        split <;> exact this
    · have : (es.modify l.length fun e => { e with val := vf v }).toList.map (·.born) = es.toList.map (·.born) := by
        rw [Array.toList_modify]
        apply List.ext_getElem?
        intro i
        simp only [List.getElem?_map, List.getElem?_modify]
        cases es.toList[i]? with
        | none => rfl
        | some e => simp only [Option.map_eq_map, Option.map_some]; split <;> rfl
      rw [this]; exact h4
variable [DecidableEq κ]
theorem mapEntry_new (hT : T.Ok P) (H : Hp B S F w) [hp : TakeM S n kf vf l S'] {t kt et : TypeId} {i : TypeInfo} {de : TD} {z : ν} {k : κ} {x : Value} (ht : T t = some ⟨.map kt et, i⟩) (he : T et = some de) (hz : de.info.zero = some (vf z))
    (hk : Keys P kt kf) (hx : x = kf k) (hn : lkI k l 0 = none) (kk : ∀ (c : Nat) w', Hp B (mapN n kf vf l k z c :: S') F w' → K (.tuple #[vf z, .int .i64 (c : Int)]) w') : MapEntryK P K w t (.map (some n)) x := by
  subst hx
  have hp' : Take S (mapO n kf vf l) S' := ⟨hp.perm⟩
  obtain ⟨fa, _, es, clock, h1, h2, h3, h4⟩ := H.own (A := mapO n kf vf l)
  have hg : (getObj n).run P w = .ok (.map es clock) w := by simp [getObj, Sem.run, h1]
  have hset : ∀ es' c', (setObj n (.map es' c')).run P w = .ok () (World.setBlk w n (.map es' c')) := fun es' c' => by
    simp [setObj, Sem.run, h1, World.setBlk]
  have hlen : es.toList.length = l.length := by simpa using congrArg List.length h2
  refine MapEntryK.of (w' := World.setBlk w n (.map (es.push ⟨kf k, vf z, clock⟩) (clock + 1))) (v := .tuple #[vf z, .int .i64 (clock : Int)]) ?_ (kk clock _ ?_)
  · simp only [Instr.mapEntry, Sem.run_bind, run_und hT ht, Result.andThen_ok, hg, hk.chk, hk.find vf k l es.toList w h2, hn, Option.map_none, hset, zero_rule hT he hz, Sem.run_pure, goInt]
  · refine H.step (A := mapO n kf vf l) rfl rfl rfl (by simp [World.setBlk]) fun fa ha => ⟨fun b _ hb => heap_setBlk_ne w _ fun e => hb ((ha.1 b).2 e), fa, ⟨ha.1, _, _, heap_setBlk_at w h1, ?_, ?_, ?_, ?_⟩, fun b hb => .inl hb⟩
    · simp [h2]
    · intro e he
      simp only [Array.toList_push, List.mem_append, List.mem_singleton] at he
      rcases he with he | rfl
      · have := h3 e he; omega
      · exact Nat.lt_succ_self _
    · simp only [Array.toList_push, List.map_append, List.map_cons, List.map_nil]
      refine List.nodup_append.2 ⟨h4, by simp, fun a ha b hb => ?_⟩
      simp only [List.mem_singleton] at hb
      obtain ⟨e, he, rfl⟩ := List.mem_map.1 ha
      have := h3 e he
      omega
    · simp only [Array.toList_push, List.map_append, List.map_cons, List.map_nil]
      rw [List.getElem?_append_right (by rw [List.length_map, hlen]; exact Nat.le_refl _), List.length_map, hlen, Nat.sub_self]
      rfl
theorem lookup_new (hT : T.Ok P) (H : Hp B S F w) {k : κ} {z : ν} {c : Nat} [hp : Take S (mapN n kf vf l k z c) S'] {t kt et : TypeId} {i : TypeInfo} {de : TD} {z0 v : Value} {x : Value} (ht : T t = some ⟨.map kt et, i⟩) (he : T et = some de) (hz : de.info.zero = some z0)
    (hk : Keys P kt kf) (hx : x = kf k) (hn : lkI k l 0 = none) (hv : v = vf z) (kk : K v w) : LookupK P K w t (.map (some n)) x false := by
  subst hx hv
  obtain ⟨fa, _, es, clock, h1, h2, _⟩ := H.own (A := mapN n kf vf l k z c)
  refine LookupK.of ?_ kk
  have hg : ∀ w', w'.heap[n]? = some (.map es clock) → (getObj n).run P w' = .ok (.map es clock) w' := fun w' h => by simp [getObj, Sem.run, h]
  have hl : lkI k (l ++ [(k, z)]) 0 = some (l.length, z) := by rw [lkI_app hn, Nat.zero_add]
  simp only [Instr.lookup, Sem.run_bind, run_und hT ht, Result.andThen_ok, hg w h1, Sem.run_pure, hk.chk, hk.find vf k (l ++ [(k, z)]) es.toList w h2, hl]
  simp
end
end Go.Wk
