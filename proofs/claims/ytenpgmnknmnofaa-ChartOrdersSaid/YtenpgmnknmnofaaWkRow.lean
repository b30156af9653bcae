/- Rows of the call's own that are read and written in place; blocks that are given up and read as lists. -/
import Derived.Test.YtenpgmnknmnofaaWkEq
set_option linter.unusedVariables false
set_option linter.unusedSimpArgs false
namespace Go.Wk
class TakeRB (S : List Asn) (b : Nat) (e sz n c : outParam Nat) (cs : outParam (List Value)) (S' : outParam (List Asn)) : Prop where
  perm : S.Perm (row e sz (.slice (some ⟨b, 0, none⟩) n c) n cs :: S')
instance (priority := 2000) TakeRB.here (b e sz n c : Nat) (cs : List Value) (S : List Asn) : TakeRB (row e sz (.slice (some ⟨b, 0, none⟩) n c) n cs :: S) b e sz n c cs S := ⟨.refl _⟩
instance (priority := 1000) TakeRB.there (b e sz n c : Nat) (cs : List Value) (a : Asn) (S S' : List Asn) [h : TakeRB S b e sz n c cs S'] : TakeRB (a :: S) b e sz n c cs (a :: S') := ⟨(h.perm.cons a).trans (.swap _ a S')⟩
section
variable {P : Program} {T : Tab} {K : Value → World → Prop} {w : World} {B : Base} {S S' : List Asn} {F : List Fact}
theorem row_ld (hT : T.Ok P) (H : Hp B S F w) {b o e sz n c : Nat} {cs : List Value} {t : TypeId} (v : Value) [hp : TakeRB S b e sz n c cs S'] (h : ldV (T t) cs o = some v) (k : K v w) : LoadK P K w t (.pointer (some ⟨b, o, none⟩)) := by
  obtain ⟨fa, ha⟩ := H.own (A := row e sz (.slice (some ⟨b, 0, none⟩) n c) n cs) (hp := ⟨hp.perm⟩)
  obtain ⟨_, _, hc, _⟩ := row_cells ha rfl
  have := hc.of_ld hT h
  rw [Nat.zero_add] at this
  exact this.load k
theorem setL_take : ∀ (vs cs : List Value) (o m : Nat), o + vs.length ≤ m → (setL cs o vs).take m = setL (cs.take m) o vs
  | [], _, _, _, _ => rfl
  | v :: vs, cs, o, m, h => by
    simp only [List.length_cons] at h
    rw [setL, setL, setL_take vs _ _ _ (by omega)]
    congr 1
    apply List.ext_getElem?
    intro i
    simp only [List.getElem?_take, List.getElem?_set, List.length_take]
    by_cases hi : o = i
    · subst hi
      have : o < m := by omega
      simp only [this, if_true]
      by_cases hl : o < cs.length
      · have h2 : o < min m cs.length := by omega
        simp [hl, h2]
      · have : ¬ o < min m cs.length := by omega
        simp [hl, this]
    · simp [hi]
theorem row_st (hT : T.Ok P) (H : Hp B S F w) {b o e sz n c : Nat} {cs : List Value} {t : TypeId} {d : TD} {x : Value} [hp : TakeRB S b e sz n c cs S'] (ht : T t = some d) (hs : Nat.beq x.cells.toList.length d.info.size = true)
    (hl : o + x.cells.toList.length ≤ cs.length) (h1 : allOne x.cells.toList = true)
    (k : ∀ w', Hp B (row e sz (.slice (some ⟨b, 0, none⟩) n c) n (setL cs o x.cells.toList) :: S') F w' → K undef w') : StoreK P K w t (.pointer (some ⟨b, o, none⟩)) x := by
  have hp' : Take S (row e sz (.slice (some ⟨b, 0, none⟩) n c) n cs) S' := ⟨hp.perm⟩
  obtain ⟨fa, ha⟩ := H.own (A := row e sz (.slice (some ⟨b, 0, none⟩) n c) n cs)
  obtain ⟨⟨q1, q2⟩, q3⟩ := ha
  rcases q2 with ⟨q2, _⟩ | ⟨g, cap, cur, q2, q4, q5, q6, q7, q8, q9⟩
  · cases q2
  · injection q2 with e1 e2 e3
    injection e1 with e1
    injection e1 with e1
    subst e1 e3
    have hlen : cs.length ≤ cur.toList.length := by rw [← q9]; simp; omega
    have hr := run_storeCells_blk (P := P) x.cells.toList cur.toList o 0 w (by simpa using q5) (by omega) h1
    rw [Nat.add_zero] at hr
    have hs' : x.cells.size = d.info.size := by have := Nat.eq_of_beq_eq_true hs; simpa using this
    refine StoreK.of (w' := World.setBlk w b (.cells (setL cur.toList o x.cells.toList).toArray e (0, 0))) ?_ (k _ (H.step (A := row e sz (.slice (some ⟨b, 0, none⟩) n c) n cs) rfl rfl rfl (by simp [World.setBlk]) fun fa ha => ?_))
    · simp only [Instr.storeAt, Instr.sureAddr, storeVar, Sem.run_bind, Sem.run_pure, Result.andThen_ok, run_szOf hT ht, hs', ne_eq, not_true_eq_false, if_false]
      simpa using hr
    · refine ⟨fun k _ hk => heap_setBlk_ne w _ fun e => hk ((ha.2 k).2 (by rw [e]; rfl)), fa, ⟨⟨by rw [length_setL]; exact q1, .inr ⟨b, c, _, rfl, q4, heap_setBlk_at w q5, q6, q7, by simp [length_setL, q8], ?_⟩⟩, ha.2⟩, fun k hk => .inl hk⟩
      rw [← q9, setL_take _ _ _ _ (by rw [← q1]; exact hl)]
/-- A block of one's own reads as a list, once given up. -/
theorem Hp.frzBlk (H : Hp B S F w) {n : Nat} {cs : List Value} {t : TypeId} {α : Type} (r : Rp α) (xs : List α) [h1 : TakeB S n cs t S'] (hM : ∀ b, ¬ B.M b) (hm : xs.length ≤ 9223372036854775807) (hl : cs.length = xs.length * r.sz)
    (hx : ∀ i x, xs[i]? = some x → ∃ p, r.ok x p ∧ (cs.drop (i * r.sz)).take r.sz = r.cells x p ∧ r.facts x p = []) : Hp B S' (Sl r (.slice (some ⟨n, 0, none⟩) xs.length xs.length) xs :: F) w := by
  refine ((H.perm h1.perm).freeze hM).facts fun I ha f hf => ?_
  rcases List.mem_cons.1 hf with rfl | hf
  · obtain ⟨fp, hb, hi⟩ := ha _ List.mem_cons_self
    refine ⟨_, _, rfl, Nat.le_refl _, hm, fun i x hxi => ?_⟩
    obtain ⟨p, ok, hc, hf⟩ := hx i x hxi
    refine ⟨n, 0, rfl, hi n ((hb.1 n).2 rfl), p, ok, fun j u hj => ?_, by rw [hf]; intro f h; cases h⟩
    rw [← hc, List.getElem?_take] at hj
    split at hj
    · rw [List.getElem?_drop] at hj
      have := blk_cells hb _ _ hj
      rwa [Nat.zero_add] at this ⊢
    · cases hj
  · exact ha f (List.mem_cons_of_mem _ hf)
theorem Hp.addCl (H : Hp B S F w) {α : Type} (r : Rp α) {cs : List Value} {xs : List α} (hl : cs.length = xs.length * r.sz) (hx : ∀ i x, xs[i]? = some x → ∃ p, r.ok x p ∧ (cs.drop (i * r.sz)).take r.sz = r.cells x p ∧ r.facts x p = []) : Hp B S (Cl r cs xs :: F) w :=
  H.facts fun I ha f hf => by
    rcases List.mem_cons.1 hf with rfl | hf
    · exact ⟨hl, fun i x h => let ⟨p, a, b, c⟩ := hx i x h; ⟨p, a, b, by rw [c]; intro f h; cases h⟩⟩
    · exact ha f hf
end
end Go.Wk
