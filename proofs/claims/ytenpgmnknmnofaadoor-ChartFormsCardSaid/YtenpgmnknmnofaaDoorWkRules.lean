/- The rules of the operations that touch memory, at the state of ZWkHeap. -/
import Derived.Test.YtenpgmnknmnofaaDoorWkHeap
import Derived.Laws.AppendOwn
import Derived.Laws.OwnMore
import Derived.Laws.IdiomCopy
import Derived.Maps.AppendAt
set_option linter.unusedVariables false
set_option linter.unusedSimpArgs false
namespace Go.Wk

/-! ### 1. Blocks of the call's own -/
def blkO (n : Nat) (o : Obj) : Asn where
  at_ w fp := (∀ b, fp b ↔ b = n) ∧ w.heap[n]? = some o
  loc := fun ⟨h1, h2⟩ k => ⟨h1, by rw [k n ((h1 n).2 rfl)]; exact h2⟩
  lt := fun ⟨h1, h2⟩ hb => by rw [(h1 _).1 hb]; exact (Array.getElem?_eq_some_iff.1 h2).1
abbrev blk (n : Nat) (cs : List Value) (t : TypeId) : Asn := blkO n (.cells cs.toArray t (0, 0))
class TakeO (S : List Asn) (n : Nat) (o : outParam Obj) (S' : outParam (List Asn)) : Prop where
  perm : S.Perm (blkO n o :: S')
instance (priority := 2000) TakeO.here (n : Nat) (o : Obj) (S : List Asn) : TakeO (blkO n o :: S) n o S := ⟨.refl _⟩
instance (priority := 1000) TakeO.there (n : Nat) (o : Obj) (b : Asn) (S S' : List Asn) [h : TakeO S n o S'] : TakeO (b :: S) n o (b :: S') := ⟨(h.perm.cons b).trans (.swap _ b S')⟩
class TakeB (S : List Asn) (n : Nat) (cs : outParam (List Value)) (t : outParam TypeId) (S' : outParam (List Asn)) : Prop where
  perm : S.Perm (blk n cs t :: S')
instance (priority := 2000) TakeB.here (n : Nat) (cs : List Value) (t : TypeId) (S : List Asn) : TakeB (blk n cs t :: S) n cs t S := ⟨.refl _⟩
instance (priority := 1000) TakeB.there (n : Nat) (cs : List Value) (t : TypeId) (b : Asn) (S S' : List Asn) [h : TakeB S n cs t S'] : TakeB (b :: S) n cs t (b :: S') := ⟨(h.perm.cons b).trans (.swap _ b S')⟩
theorem heap_alloc_lt (w : World) (o : Obj) {b : Nat} (h : b < w.heap.size) : (w.alloc o).heap[b]? = w.heap[b]? := by
  show (w.heap.push o)[b]? = _
  rw [Array.getElem?_push, if_neg (by omega)]
theorem heap_alloc_at (w : World) (o : Obj) : (w.alloc o).heap[w.heap.size]? = some o := by
  show (w.heap.push o)[w.heap.size]? = _
  simp
theorem Hp.alloc {B : Base} {S : List Asn} {F : List Fact} {w : World} (h : Hp B S F w) (o : Obj) : Hp B (blkO w.heap.size o :: S) F (w.alloc o) := by
  obtain ⟨h1, h2, h3, h4, h5, I, fp, hs, ha, r1, r2, r3, r4, r5⟩ := h
  refine ⟨h1, h2, h3, by simp; omega, fun b hb hM => by rw [heap_alloc_lt _ _ (by omega)]; exact h5 b hb hM, I, fun b => b = w.heap.size ∨ fp b, ⟨fun b => b = w.heap.size, fp, ⟨fun _ => Iff.rfl, heap_alloc_at w o⟩, ?_, ?_, fun _ => Iff.rfl, ?_⟩, ?_, r1, r2, fun b hb => by have := r3 b hb; simp; omega, ?_, ?_⟩
  · intro b hb hi
    subst hb
    exact absurd (r3 _ hi) (Nat.lt_irrefl _)
  · intro b hb hf
    subst hb
    exact absurd (hs.lt _ hf) (Nat.lt_irrefl _)
  · exact hs.keep (fun b hb => heap_alloc_lt _ _ (hs.lt b hb)) fun b hb => hs.off b hb
  · exact fun f hf => f.mono (ha f hf) (fun _ hb => hb) fun b hb => heap_alloc_lt _ _ (r3 b hb)
  · rintro b (hb | hb)
    · subst hb; exact .inr h4
    · exact r4 b hb
  · rintro b (hb | hb) hi
    · subst hb; exact absurd (r3 _ hi) (Nat.lt_irrefl _)
    · exact r5 b hb hi
/-- What is owned says of the world what it says. -/
theorem Hp.own {B : Base} {S S' : List Asn} {F : List Fact} {w : World} {A : Asn} (h : Hp B S F w) [hp : Take S A S'] : ∃ fa, A.at_ w fa := by
  obtain ⟨_, _, _, _, _, I, fp, ⟨fa, fs, ha, _⟩, _⟩ := h.perm hp.perm
  exact ⟨fa, ha⟩
theorem Hp.fact {B : Base} {S : List Asn} {F : List Fact} {w : World} {f : Fact} (h : Hp B S F w) [hp : InF F f] : ∃ I, f.holds w I := by
  obtain ⟨_, _, _, _, _, I, fp, _, ha, _⟩ := h
  exact ⟨I, ha f hp.mem⟩
/-- A step of the world that touches what A holds alone, and leaves A' there. -/
theorem Hp.step {B : Base} {S S' : List Asn} {F : List Fact} {w w' : World} {A A' : Asn} (h : Hp B S F w) [hp : Take S A S'] (ho : w'.os = w.os) (ht : w'.tape = w.tape) (hu : w'.output = w.output) (hz : w.heap.size ≤ w'.heap.size)
    (k : ∀ fa, A.at_ w fa → (∀ b, b < w.heap.size → ¬ fa b → w'.heap[b]? = w.heap[b]?) ∧ ∃ fa', A'.at_ w' fa' ∧ ∀ b, fa' b → fa b ∨ w.heap.size ≤ b) : Hp B (A' :: S') F w' := by
  obtain ⟨M, I, h0, _, hk⟩ := (h.perm hp.perm).call (A := [A]) (S := S') (G := []) fun I _ f hf => by cases hf
  obtain ⟨_, _, _, _, _, I', fp, ⟨fa, fs, ha, hi, hd, hu', hs⟩, hall, q1, q2, q3, q4, q5⟩ := h0
  obtain ⟨hfr, fa', ha', hn⟩ := k fa ha
  refine hk [A'] [] w' ⟨ho, ht, hu, hz, fun b hb hM => hfr b hb fun hf => hM ?_, I', fa', ⟨fa', fun _ => False, ha', ?_, fun _ _ => id, fun b => by simp, fun _ => id⟩, (fun f hf => by cases hf), q1, q2, fun b hb => Nat.lt_of_lt_of_le (q3 b hb) hz, ?_, ?_⟩
  · rcases q4 b ((hu' b).2 (.inl hf)) with h | h
    · exact h
    · simp only at h; omega
  all_goals
    intro b hb
    rcases hn b hb with h | h
  · exact hi b h
  · exact fun hib => by have := q3 b hib; omega
  · exact q4 b ((hu' b).2 (.inl h))
  · exact .inr h
  · exact hi b h
  · exact fun hib => by have := q3 b hib; omega
theorem cells_size (l : List Value) : l.toArray.size = l.length := by simp
section
variable {P : Program} {T : Tab} {K : Value → World → Prop} {w : World} {B : Base} {S : List Asn} {F : List Fact}
theorem box_rule (H : Hp B S F w) {t : TypeId} {v : Value} (k : ∀ n w', Hp B (blk n v.cells.toList t :: S) F w' → K (.pointer (some ⟨n, 0, none⟩)) w') : BoxK P K w t v := by
  refine BoxK.of (w' := w.alloc (.cells v.cells t)) (v := .pointer (some ⟨w.heap.size, 0, none⟩)) rfl (k _ _ ?_)
  have := H.alloc (.cells v.cells t)
  simpa [blk] using this
theorem alloc_rule (hT : T.Ok P) (H : Hp B S F w) {t : TypeId} {d : TypeDesc} {i : TypeInfo} {z : Value} (ht : T t = some ⟨d, i⟩) (hz : i.zero = some z) (k : ∀ n w', Hp B (blk n z.cells.toList t :: S) F w' → K (.pointer (some ⟨n, 0, none⟩)) w') : AllocK P K w t := by
  refine AllocK.of (w' := w.alloc (.cells z.cells t)) (v := .pointer (some ⟨w.heap.size, 0, none⟩)) ?_ (k _ _ ?_)
  · simp [Instr.alloc, zeroValue, run_info hT ht, hz, newVar, newRow]
  · have := H.alloc (.cells z.cells t)
    simpa [blk] using this
theorem zero_rule (hT : T.Ok P) {t : TypeId} {d : TypeDesc} {i : TypeInfo} {z : Value} (ht : T t = some ⟨d, i⟩) (hz : i.zero = some z) (w : World) : (zeroValue t).run P w = .ok z w := by
  simp [zeroValue, run_info hT ht, hz]

/-! ### 2. Loads and stores -/
/-- Cells in a row. -/
def CellsAt (w : World) (b o : Nat) (vs : List Value) : Prop := ∀ j v, vs[j]? = some v → w.cell? ⟨b, o + j, none⟩ = some v
theorem add_plain (g o j : Nat) : (⟨g, o, none⟩ : Addr).add j = ⟨g, o + j, none⟩ := by unfold Addr.add; split <;> simp_all
theorem LdV.one (hT : T.Ok P) {t : TypeId} {d : TD} {ad : Addr} {v : Value} (ht : T t = some d) (ha : isAggD d.desc = false) (hc : w.cell? ad = some v) : LdV P w t (.pointer (some ad)) v := by
  simp [LdV, Instr.loadAt, Instr.sureAddr, loadVar, run_agg hT ht, ha, hc]
theorem LdV.agg (hT : T.Ok P) {t : TypeId} {d : TD} {b o : Nat} {vs : List Value} (ht : T t = some d) (ha : isAggD d.desc = true) (hc : CellsAt w b o vs) (hl : vs.length = d.info.size) : LdV P w t (.pointer (some ⟨b, o, none⟩)) (.agg vs.toArray) := by
  have h := run_loadCells_list (P := P) w ⟨b, o, none⟩ vs fun j v hj => by rw [add_plain]; exact hc j v hj
  rw [hl] at h
  simp [LdV, Instr.loadAt, Instr.sureAddr, loadVar, run_agg hT ht, ha, run_szOf hT ht, h]
theorem LdV.load {t : TypeId} {x v : Value} (h : LdV P w t x v) (k : K v w) : LoadK P K w t x := LoadK.of h k
/-- The value of type t at a place of a list of cells. -/
def ldV (d : Option TD) (cs : List Value) (o : Nat) : Option Value := match d with
  | none => none
  | some d => bif isAggD d.desc then (bif Nat.ble (o + d.info.size) cs.length then some (.agg ((cs.drop o).take d.info.size).toArray) else none) else cs[o]?
theorem CellsAt.of_ld (hT : T.Ok P) {t : TypeId} {b o o' : Nat} {cs : List Value} {v : Value} (hc : CellsAt w b o' cs) (h : ldV (T t) cs o = some v) : LdV P w t (.pointer (some ⟨b, o' + o, none⟩)) v := by
  unfold ldV at h
  cases ht : T t with
  | none => rw [ht] at h; cases h
  | some d =>
    rw [ht] at h
    simp only at h
    cases ha : isAggD d.desc with
    | false =>
      rw [ha] at h
      exact LdV.one hT ht ha (hc o v h)
    | true =>
      rw [ha] at h
      simp only [cond_true] at h
      cases hb : Nat.ble (o + d.info.size) cs.length with
      | false => rw [hb] at h; cases h
      | true =>
        rw [hb] at h
        simp only [cond_true, Option.some.injEq] at h
        subst h
        have hb' := Nat.le_of_ble_eq_true hb
        refine LdV.agg hT ht ha (fun j u hj => ?_) (by simp; omega)
        have : cs[o + j]? = some u := by
          rw [List.getElem?_take] at hj
          split at hj
          · rwa [List.getElem?_drop] at hj
          · cases hj
        have := hc (o + j) u this
        rwa [← Nat.add_assoc] at this
theorem blk_cells {n : Nat} {cs : List Value} {t : TypeId} {fp : BS} (h : (blk n cs t).at_ w fp) : CellsAt w n 0 cs := by
  intro j v hj
  simp [World.cell?, h.2, hj]
theorem Hp.ld (hT : T.Ok P) (H : Hp B S F w) {S' : List Asn} {n o : Nat} {cs : List Value} {t t0 : TypeId} {v : Value} [hp : TakeB S n cs t0 S'] (h : ldV (T t) cs o = some v) : LdV P w t (.pointer (some ⟨n, o, none⟩)) v := by
  obtain ⟨fa, ha⟩ := H.own (A := blk n cs t0) (hp := ⟨hp.perm⟩)
  have := (blk_cells ha).of_ld hT h
  rwa [Nat.zero_add] at this
theorem load_rule (hT : T.Ok P) (H : Hp B S F w) {S' : List Asn} {n o : Nat} {cs : List Value} {t t0 : TypeId} {v : Value} [hp : TakeB S n cs t0 S'] (h : ldV (T t) cs o = some v) (k : K v w) : LoadK P K w t (.pointer (some ⟨n, o, none⟩)) :=
  (H.ld hT h).load k
/-- Cells written one behind the other. -/
def setL (cs : List Value) (o : Nat) : List Value → List Value
  | [] => cs
  | v :: vs => setL (cs.set o v) (o + 1) vs
theorem length_setL : ∀ (vs cs : List Value) (o : Nat), (setL cs o vs).length = cs.length
  | [], _, _ => rfl
  | v :: vs, cs, o => by rw [setL, length_setL vs]; simp
def World.setBlk (w : World) (n : Nat) (o : Obj) : World := { w with heap := w.heap.setIfInBounds n o }
def allOne : List Value → Bool
  | [] => true
  | v :: r => v.oneCell' && allOne r
theorem run_storeCells_blk {n : Nat} {t : TypeId} : ∀ (vs cs : List Value) (o i : Nat) (w : World), w.heap[n]? = some (.cells cs.toArray t (0, 0)) → o + i + vs.length ≤ cs.length → allOne vs = true →
    (storeCells ⟨n, o, none⟩ vs i).run P w = .ok () (World.setBlk w n (.cells (setL cs (o + i) vs).toArray t (0, 0)))
  | [], cs, o, i, w, h, _, _ => by
    have hn := (Array.getElem?_eq_some_iff.1 h).1
    have : World.setBlk w n (.cells cs.toArray t (0, 0)) = w := by
      unfold World.setBlk
      congr 1
      apply Array.ext_getElem?
      intro j
      by_cases hj : n = j
      · subst hj
        rw [h]
        simp [hn]
      · rw [Array.getElem?_setIfInBounds_ne hj]
    rw [setL, this]
    simp [storeCells]
  | v :: vs, cs, o, i, w, h, hl, h1 => by
    simp only [allOne, Bool.and_eq_true] at h1
    simp only [List.length_cons] at hl
    have hn := (Array.getElem?_eq_some_iff.1 h).1
    have hc : w.cell? ⟨n, o + i, none⟩ = some (cs[o + i]'(by omega)) := by simp [World.cell?, h, List.getElem?_eq_getElem (show o + i < cs.length by omega)]
    have hf : w.frozen? ⟨n, o + i, none⟩ = false := by simp [World.frozen?, h]
    have hst := run_store P w ⟨n, o + i, none⟩ v .plain h1.1
    rw [hc] at hst
    simp only [hf, Bool.false_eq_true, if_false] at hst
    have hw : (w.setCell ⟨n, o + i, none⟩ v).heap[n]? = some (.cells (cs.set (o + i) v).toArray t (0, 0)) := by
      simp [World.setCell, Array.getElem?_modify, h]
    have ih := run_storeCells_blk vs (cs.set (o + i) v) o (i + 1) (w.setCell ⟨n, o + i, none⟩ v) hw (by simp; omega) h1.2
    simp only [storeCells, add_plain, Sem.run_bind, hst, Result.andThen_ok, ih, setL]
    congr 1
    unfold World.setBlk World.setCell
    congr 1
    apply Array.ext_getElem?
    intro j
    by_cases hj : n = j
    · subst hj; simp [hn, Nat.add_assoc]
    · rw [Array.getElem?_setIfInBounds_ne hj, Array.getElem?_setIfInBounds_ne hj, Array.getElem?_modify, if_neg hj]
theorem heap_setBlk_ne (w : World) {n b : Nat} (o : Obj) (h : b ≠ n) : (World.setBlk w n o).heap[b]? = w.heap[b]? := Array.getElem?_setIfInBounds_ne (Ne.symm h)
theorem heap_setBlk_at (w : World) {n : Nat} {o o' : Obj} (h : w.heap[n]? = some o') : (World.setBlk w n o).heap[n]? = some o := by
  simp [World.setBlk, (Array.getElem?_eq_some_iff.1 h).1]
theorem Hp.setBlk (H : Hp B S F w) {S' : List Asn} {n : Nat} {o o' : Obj} [hp : Take S (blkO n o) S'] : Hp B (blkO n o' :: S') F (World.setBlk w n o') := by
  refine H.step (A := blkO n o) rfl rfl rfl (by simp [World.setBlk]) fun fa ha => ⟨fun b _ hb => heap_setBlk_ne w o' fun e => hb ((ha.1 b).2 e), fa, ⟨ha.1, heap_setBlk_at w ha.2⟩, fun b hb => .inl hb⟩
theorem store_rule (hT : T.Ok P) (H : Hp B S F w) {S' : List Asn} {n o : Nat} {cs : List Value} {t t0 : TypeId} {d : TD} {x : Value} [hp : TakeB S n cs t0 S'] (ht : T t = some d) (hs : Nat.beq x.cells.toList.length d.info.size = true)
    (hl : Nat.ble (o + x.cells.toList.length) cs.length = true) (h1 : allOne x.cells.toList = true)
    (k : ∀ w', Hp B (blk n (setL cs o x.cells.toList) t0 :: S') F w' → K undef w') : StoreK P K w t (.pointer (some ⟨n, o, none⟩)) x := by
  have hp' : Take S (blk n cs t0) S' := ⟨hp.perm⟩
  obtain ⟨fa, ha⟩ := H.own (A := blk n cs t0)
  have hr := run_storeCells_blk (P := P) x.cells.toList cs o 0 w ha.2 (by have := Nat.le_of_ble_eq_true hl; omega) h1
  refine StoreK.of (w' := World.setBlk w n (.cells (setL cs o x.cells.toList).toArray t0 (0, 0))) ?_ (k _ (H.setBlk (o := .cells cs.toArray t0 (0, 0))))
  have hs' : x.cells.size = d.info.size := by have := Nat.eq_of_beq_eq_true hs; simpa using this
  simp only [Instr.storeAt, Instr.sureAddr, storeVar, Sem.run_bind, Sem.run_pure, Result.andThen_ok, run_szOf hT ht, hs', ne_eq, not_true_eq_false, if_false]
  simpa using hr
end
end Go.Wk
