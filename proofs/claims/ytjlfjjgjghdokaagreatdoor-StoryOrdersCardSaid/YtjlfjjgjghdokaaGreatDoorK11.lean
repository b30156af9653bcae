/- Something that was made since: it may be given up even where something was handed over. -/
import Derived.Test.YtjlfjjgjghdokaaGreatDoorK7
set_option linter.unusedVariables false
namespace Go.Wk
open Go Go.Proofs
variable {P : Program} {T : Tab} {K : Value → World → Prop} {w : World} {B : Base} {S S' : List Asn} {F : List Fact}
/-- A, all of it at N or behind. -/
def Fr (N : Nat) (A : Asn) : Asn where
  at_ w fp := A.at_ w fp ∧ ∀ b, fp b → N ≤ b
  loc := fun ⟨h1, h2⟩ hk => ⟨A.loc h1 hk, h2⟩
  lt := fun ⟨h1, _⟩ hb => A.lt h1 hb
theorem Hp.head {A A' : Asn} (H : Hp B (A :: S) F w) (h : ∀ fp, A.at_ w fp → A'.at_ w fp) : Hp B (A' :: S) F w := by
  obtain ⟨h1, h2, h3, h4, h5, I, fp, ⟨fa, fs, ha, hi, hd, hu, hs⟩, r⟩ := H
  exact ⟨h1, h2, h3, h4, h5, I, fp, ⟨fa, fs, h fa ha, hi, hd, hu, hs⟩, r⟩
theorem Hp.frLe {A : Asn} {N N' : Nat} (H : Hp B (Fr N A :: S) F w) (h : N' ≤ N) : Hp B (Fr N' A :: S) F w := H.head fun _ ⟨h1, h2⟩ => ⟨h1, fun b hb => Nat.le_trans h (h2 b hb)⟩
theorem Hp.frDrop {A : Asn} {N : Nat} (H : Hp B (Fr N A :: S) F w) : Hp B (A :: S) F w := H.head fun _ h => h.1
theorem Hp.frBlk {N n : Nat} {o : Obj} (H : Hp B (blkO n o :: S) F w) (h : N ≤ n) : Hp B (Fr N (blkO n o) :: S) F w := H.head fun fp ha => ⟨ha, fun b hb => by rw [(ha.1 b).1 hb]; exact h⟩
theorem Hp.freezeFr {A : Asn} {N : Nat} (h : Hp B (Fr N A :: S) F w) (hn : B.w.heap.size ≤ N) : Hp B S (A.frz :: F) w := by
  obtain ⟨h1, h2, h3, h4, h5, I, fp, ⟨fa, fs, ha, hi, hd, hu, hs⟩, hall, r1, r2, r3, r4, r5⟩ := h
  refine ⟨h1, h2, h3, h4, h5, fun b => I b ∨ fa b, fs, hs.keep (fun _ _ => rfl) ?_, ?_, ?_, fun b hb => .inl (r2 b hb), ?_, fun b hb => r4 b ((hu b).2 (.inr hb)), ?_⟩
  · rintro b hb (h | h)
    · exact r5 b ((hu b).2 (.inr hb)) h
    · exact hd b h hb
  · intro f hf
    rcases List.mem_cons.1 hf with rfl | hf
    · exact ⟨fa, ha.1, fun b hb => .inr hb⟩
    · exact f.mono (hall f hf) (fun b hb => .inl hb) fun _ _ => rfl
  · rintro b (h | h)
    · exact r1 b h
    · exact .inr (Nat.le_trans hn (ha.2 b h))
  · rintro b (h | h)
    · exact r3 b h
    · exact A.lt ha.1 h
  · rintro b hb (h | h)
    · exact r5 b ((hu b).2 (.inr hb)) h
    · exact hd b h hb
/-- A literal of a slice, made here. -/
theorem buildSlice_fr (hT : T.Ok P) (H : Hp B S F w) {t e : TypeId} {it : TypeInfo} {de : TD} {z : Value} {n : Nat} {parts : List (Nat × Value)} {cs : List Value} (ht : T t = some ⟨.slice e, it⟩) (he : T e = some de) (hz : de.info.zero = some z)
    (hs : seqParts de.info.size 0 parts = some cs) (hn : Nat.beq parts.length n = true) (hb : Nat.ble (n * de.info.size) 16777216 = true) (k : ∀ g w', Hp B (Fr B.w.heap.size (blk g cs e) :: S) F w' → K (.slice (some ⟨g, 0, none⟩) n n) w') : BuildSliceK P K w t n parts :=
  BuildSliceK.of (run_buildSlice hT ht he hz hs hn hb w) (k _ _ ((H.alloc _).frBlk H.size))
class TakeF (S : List Asn) (N : outParam Nat) (v : Value) (e sz n : outParam Nat) (cs : outParam (List Value)) (S' : outParam (List Asn)) : Prop where
  perm : S.Perm (Fr N (row e sz v n cs) :: S')
instance (priority := 2000) TakeF.here (N : Nat) (v : Value) (e sz n : Nat) (cs : List Value) (S : List Asn) : TakeF (Fr N (row e sz v n cs) :: S) N v e sz n cs S := ⟨.refl _⟩
instance (priority := 1000) TakeF.there (N : Nat) (v : Value) (e sz n : Nat) (cs : List Value) (b : Asn) (S S' : List Asn) [h : TakeF S N v e sz n cs S'] : TakeF (b :: S) N v e sz n cs (b :: S') := ⟨(h.perm.cons b).trans (.swap _ b S')⟩
theorem Hp.frRow {N g : Nat} {cs : List Value} {e : TypeId} (H : Hp B (Fr N (blk g cs e) :: S) F w) (sz n : Nat) (hl : cs.length = n * sz) (hm : n ≤ 9223372036854775807) : Hp B (Fr N (row e sz (.slice (some ⟨g, 0, none⟩) n n) n cs) :: S) F w := by
  obtain ⟨h1, h2, h3, h4, h5, I, fp, ⟨fa, fs, ha, hi, hd, hu, hs⟩, r⟩ := H
  have Hx : Hp B (blk g cs e :: S) F w := ⟨h1, h2, h3, h4, h5, I, fp, ⟨fa, fs, ha.1, hi, hd, hu, hs⟩, r⟩
  have Hy := Hx.toRow (g := g) sz n hl hm
  have hNg : N ≤ g := ha.2 g ((ha.1.1 g).2 rfl)
  exact Hy.head fun fp hf => ⟨hf, fun b hb => by
    have e := (hf.2 b).1 hb
    have e : some g = some b := e
    injection e with e
    omega⟩
/-- A row reads as a list. -/
theorem Hp.frzRowFr (H : Hp B S F w) {S' : List Asn} {N e sz n : Nat} {v : Value} {cs : List Value} {α : Type} (r : Rp α) {xs : List α} [h1 : TakeF S N v e sz n cs S'] [h2 : InF F (Cl r cs xs)] (hM : B.w.heap.size ≤ N) (hsz : sz = r.sz) (hp : 0 < sz) : Hp B S' (Sl r v xs :: F) w := by
  refine ((H.perm h1.perm).freezeFr hM).facts fun I ha f hf => ?_
  rcases List.mem_cons.1 hf with rfl | hf
  · obtain ⟨fp, hrow, hi⟩ := ha _ List.mem_cons_self
    obtain ⟨q1, q2⟩ := ha _ (List.mem_cons_of_mem _ h2.mem)
    obtain ⟨A, c, rfl, hn, hcm, hA⟩ := row_shape hrow
    have hml : maxLen = 9223372036854775807 := rfl
    have hl := hrow.1.1
    subst hsz
    have hnx : n = xs.length := Nat.eq_of_mul_eq_mul_right hp (by rw [← hl, q1])
    refine ⟨A, c, by rw [← hnx], by omega, by omega, fun hA0 => ?_, fun i x hx => ?_⟩
    · subst hA0
      rcases hrow.1.2 with ⟨h, _⟩ | ⟨g, cap, cur, h, _⟩
      · injection h
      · injection h with h; cases h
    have hix : i < xs.length := (List.getElem?_eq_some_iff.1 hx).1
    obtain ⟨b, rfl⟩ := hA (by omega)
    obtain ⟨_, _, hcells, _, hfb⟩ := row_cells hrow rfl
    obtain ⟨p, ok, hcx, hfx⟩ := q2 i x hx
    refine ⟨b, 0, rfl, hi b hfb, p, ok, fun j u hj => ?_, hfx⟩
    rw [← hcx, List.getElem?_take] at hj
    split at hj
    · rw [List.getElem?_drop] at hj
      have := hcells _ _ hj
      rwa [Nat.zero_add] at this ⊢
    · cases hj
  · exact ha f (List.mem_cons_of_mem _ hf)
theorem append_fr (hT : T.Ok P) (H : Hp B S F w) {N e sz n m c b : Nat} {v : Value} {cs news : List Value} {S1 S2 : List Asn} {t t0 ty : TypeId} {it : TypeInfo} {de : TD} {z : Value} [h1 : TakeF S N v e sz n cs S1] [h2 : TakeB S1 b news t0 S2]
    {cst : List Bool} (ht : T t = some ⟨.slice e, it⟩) (he : T e = some de) (hz : de.info.zero = some z) (hzs : Nat.beq z.cells.size sz = true) (hsz : Nat.beq de.info.size sz = true) (hp : Nat.ble 1 sz = true) (hl : Nat.beq news.length (m * sz) = true) (ho : allOne news = true)
    (hb : (n + m) * de.info.bytes ≤ 140737488355328) (hm : n + m ≤ 140737488355328) (hN : N ≤ w.heap.size)
    (k : ∀ A c w', Hp B (Fr N (row e sz (.slice A (n + m) c) (n + m) (cs ++ news)) :: S2) F w' → K (.slice A (n + m) c) w') : BuiltinK P K w .append [t, t] ty cst [v, .slice (some ⟨b, 0, none⟩) m c] := by
  have H1 := H.perm h1.perm
  obtain ⟨fb, hfb⟩ := Hp.own (A := blk b news t0) (S' := Fr N (row e sz v n cs) :: S2) (hp := ⟨(h2.perm.cons _).trans (.swap _ _ _)⟩) H1
  obtain ⟨fa, hfa', hfaN⟩ := Hp.own (A := Fr N (row e sz v n cs)) (S' := S1) (hp := ⟨.refl _⟩) H1
  have hfa := hfa'
  have ho' : ∀ u ∈ news, u.oneCell' = true := by
    intro u hu
    clear k hfb H1 h2 H h1 hl
    induction news with
    | nil => cases hu
    | cons a r ih =>
      simp only [allOne, Bool.and_eq_true] at ho
      rcases List.mem_cons.1 hu with rfl | hu
      · exact ho.1
      · exact ih ho.2 hu
  have hsz' := Nat.eq_of_beq_eq_true hsz
  obtain ⟨v', w', hr, hown, hg, _, hat⟩ := run_append_own_at (P := P) w 0 t ty e de.info z sz de.info.bytes (hT t _ ht).1 (hT e _ he).2 hz hsz' rfl (Nat.eq_of_beq_eq_true hzs) (Nat.le_of_ble_eq_true hp) v n cs hfa.1 ⟨b, 0, none⟩ m c news (Nat.eq_of_beq_eq_true hl)
    (fun j u hj => by rw [add_plain]; exact blk_cells hfb j u hj) ho' (by unfold maxLen; omega) hb (Nat.zero_le _)
  have H2 : Hp B (Fr N (row e sz v' (n + m) (cs ++ news)) :: S1) F w' := by
    refine Hp.step (A := Fr N (row e sz v n cs)) (hp := ⟨.refl _⟩) H1 hg.os hg.tape hg.output hg.size fun fa ⟨ha, haN⟩ => ⟨fun k hk hn => hg.block k hk fun e => hn ((ha.2 k).2 e.symm), fun k => v'.ownBlock = some k, ⟨⟨hown, fun _ => Iff.rfl⟩, fun k hk => ?_⟩, fun k hk => ?_⟩
    · rcases hat with h | h
      · exact haN k ((ha.2 k).2 (h ▸ hk))
      · have hk : v'.ownBlock = some k := hk
        rw [h] at hk
        injection hk with hk
        omega
    · rcases hat with h | h
      · exact .inl ((ha.2 k).2 (h ▸ hk))
      · rw [h] at hk
        injection hk with hk
        subst hk
        exact .inr (Nat.le_refl _)
  obtain ⟨A, c', rfl, _⟩ := row_shape (w := w') (fp := fun k => v'.ownBlock = some k) ⟨hown, fun _ => Iff.rfl⟩
  refine BuiltinK.of (v := .slice A (n + m) c') (w' := w') ?_ (k A c' w' ?_)
  · simp only [builtin]
    rw [Sem.run_bind]
    have hr' : (Builtin.append_ [t, t].toArray ty [v, .slice (some ⟨b, 0, none⟩) m c].toArray).run P w = .ok (.slice A (n + m) c') w' := hr
    rw [hr']; rfl
  · exact (H2.perm ((h2.perm.cons _).trans (.swap _ _ _))).drop
end Go.Wk
