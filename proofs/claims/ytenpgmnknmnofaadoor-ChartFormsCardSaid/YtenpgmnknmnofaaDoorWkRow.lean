/- Rows of the call's own that are read and written in place; blocks that are given up and read as lists. -/
import Derived.Test.YtenpgmnknmnofaaDoorWkEq
import Derived.Laws.Slices
set_option linter.unusedVariables false
set_option linter.unusedSimpArgs false
namespace Go.Wk
class TakeRB (S : List Asn) (b : Nat) (e sz n c : outParam Nat) (cs : outParam (List Value)) (S' : outParam (List Asn)) : Prop where
  perm : S.Perm (row e sz (.slice (some ⟨b, 0, none⟩) n c) n cs :: S')
instance (priority := 2000) TakeRB.here (b e sz n c : Nat) (cs : List Value) (S : List Asn) : TakeRB (row e sz (.slice (some ⟨b, 0, none⟩) n c) n cs :: S) b e sz n c cs S := ⟨.refl _⟩
instance (priority := 1000) TakeRB.there (b e sz n c : Nat) (cs : List Value) (a : Asn) (S S' : List Asn) [h : TakeRB S b e sz n c cs S'] : TakeRB (a :: S) b e sz n c cs (a :: S') := ⟨(h.perm.cons a).trans (.swap _ a S')⟩
section
variable {P : Program} {T : Tab} {K : Value → World → Prop} {w : World} {B : Base} {S S' : List Asn} {F : List Fact}
theorem row_ld (hT : T.Ok P) (H : Hp B S F w) {b o e sz n c : Nat} {cs : List Value} {t : TypeId} (v : Value) [hp : TakeRB S b e sz n c cs S'] (h : ldV (T t) cs o = some v) (k : K v w) : LoadK P K w t (.pointer (some ⟨b, o, none⟩)) := by
  obtain ⟨fa, ha⟩ := H.own (A := row e sz (.slice (some ⟨b, 0, none⟩) n c) n cs) (hp := ⟨hp.perm⟩)
  obtain ⟨_, _, hc, _⟩ := row_cells ha rfl
  have := hc.of_ld hT h
  rw [Nat.zero_add] at this
  exact this.load k
theorem setL_take : ∀ (vs cs : List Value) (o m : Nat), o + vs.length ≤ m → (setL cs o vs).take m = setL (cs.take m) o vs
  | [], _, _, _, _ => rfl
  | v :: vs, cs, o, m, h => by
    simp only [List.length_cons] at h
    rw [setL, setL, setL_take vs _ _ _ (by omega)]
    congr 1
    apply List.ext_getElem?
    intro i
    simp only [List.getElem?_take, List.getElem?_set, List.length_take]
    by_cases hi : o = i
    · subst hi
      have : o < m := by omega
      simp only [this, if_true]
      by_cases hl : o < cs.length
      · have h2 : o < min m cs.length := by omega
        simp [hl, h2]
      · have : ¬ o < min m cs.length := by omega
        simp [hl, this]
    · simp [hi]
theorem row_st (hT : T.Ok P) (H : Hp B S F w) {b o e sz n c : Nat} {cs : List Value} {t : TypeId} {d : TD} {x : Value} [hp : TakeRB S b e sz n c cs S'] (ht : T t = some d) (hs : Nat.beq x.cells.toList.length d.info.size = true)
    (hl : o + x.cells.toList.length ≤ cs.length) (h1 : allOne x.cells.toList = true)
    (k : ∀ w', Hp B (row e sz (.slice (some ⟨b, 0, none⟩) n c) n (setL cs o x.cells.toList) :: S') F w' → K undef w') : StoreK P K w t (.pointer (some ⟨b, o, none⟩)) x := by
  have hp' : Take S (row e sz (.slice (some ⟨b, 0, none⟩) n c) n cs) S' := ⟨hp.perm⟩
  obtain ⟨fa, ha⟩ := H.own (A := row e sz (.slice (some ⟨b, 0, none⟩) n c) n cs)
  obtain ⟨⟨q1, q2⟩, q3⟩ := ha
  rcases q2 with ⟨q2, _⟩ | ⟨g, cap, cur, q2, q4, q5, q6, q7, q8, q9⟩
  · cases q2
  · injection q2 with e1 e2 e3
    injection e1 with e1
    injection e1 with e1
    subst e1 e3
    have hlen : cs.length ≤ cur.toList.length := by rw [← q9]; simp; omega
    have hr := run_storeCells_blk (P := P) x.cells.toList cur.toList o 0 w (by simpa using q5) (by omega) h1
    rw [Nat.add_zero] at hr
    have hs' : x.cells.size = d.info.size := by have := Nat.eq_of_beq_eq_true hs; simpa using this
    refine StoreK.of (w' := World.setBlk w b (.cells (setL cur.toList o x.cells.toList).toArray e (0, 0))) ?_ (k _ (H.step (A := row e sz (.slice (some ⟨b, 0, none⟩) n c) n cs) rfl rfl rfl (by simp [World.setBlk]) fun fa ha => ?_))
    · simp only [Instr.storeAt, Instr.sureAddr, storeVar, Sem.run_bind, Sem.run_pure, Result.andThen_ok, run_szOf hT ht, hs', ne_eq, not_true_eq_false, if_false]
      simpa using hr
    · refine ⟨fun k _ hk => heap_setBlk_ne w _ fun e => hk ((ha.2 k).2 (by rw [e]; rfl)), fa, ⟨⟨by rw [length_setL]; exact q1, .inr ⟨b, c, _, rfl, q4, heap_setBlk_at w q5, q6, q7, by simp [length_setL, q8], ?_⟩⟩, ha.2⟩, fun k hk => .inl hk⟩
      rw [← q9, setL_take _ _ _ _ (by rw [← q1]; exact hl)]
/-- A block of one's own reads as a list, once given up. -/
theorem Hp.frzBlk (H : Hp B S F w) {n : Nat} {cs : List Value} {t : TypeId} {α : Type} (r : Rp α) (xs : List α) [h1 : TakeB S n cs t S'] (hM : ∀ b, ¬ B.M b) (hm : xs.length ≤ 9223372036854775807) (hl : cs.length = xs.length * r.sz)
    (hx : ∀ i x, xs[i]? = some x → ∃ p, r.ok x p ∧ (cs.drop (i * r.sz)).take r.sz = r.cells x p ∧ r.facts x p = []) : Hp B S' (Sl r (.slice (some ⟨n, 0, none⟩) xs.length xs.length) xs :: F) w := by
  refine ((H.perm h1.perm).freeze hM).facts fun I ha f hf => ?_
  rcases List.mem_cons.1 hf with rfl | hf
  · obtain ⟨fp, hb, hi⟩ := ha _ List.mem_cons_self
    refine ⟨_, _, rfl, Nat.le_refl _, hm, (fun h => by cases h), fun i x hxi => ?_⟩
    obtain ⟨p, ok, hc, hf⟩ := hx i x hxi
    refine ⟨n, 0, rfl, hi n ((hb.1 n).2 rfl), p, ok, fun j u hj => ?_, by rw [hf]; intro f h; cases h⟩
    rw [← hc, List.getElem?_take] at hj
    split at hj
    · rw [List.getElem?_drop] at hj
      have := blk_cells hb _ _ hj
      rwa [Nat.zero_add] at this ⊢
    · cases hj
  · exact ha f (List.mem_cons_of_mem _ hf)
theorem Hp.addCl (H : Hp B S F w) {α : Type} (r : Rp α) {cs : List Value} {xs : List α} (hl : cs.length = xs.length * r.sz) (hx : ∀ i x, xs[i]? = some x → ∃ p, r.ok x p ∧ (cs.drop (i * r.sz)).take r.sz = r.cells x p ∧ r.facts x p = []) : Hp B S (Cl r cs xs :: F) w :=
  H.facts fun I ha f hf => by
    rcases List.mem_cons.1 hf with rfl | hf
    · exact ⟨hl, fun i x h => let ⟨p, a, b, c⟩ := hx i x h; ⟨p, a, b, by rw [c]; intro f h; cases h⟩⟩
    · exact ha f hf
theorem Hp.slNil {α : Type} (r : Rp α) (H : Hp B S F w) : Hp B S (Sl r (.slice none 0 0) [] :: F) w :=
  H.facts fun _ ha f hf => by
    rcases List.mem_cons.1 hf with rfl | hf
    · exact ⟨none, 0, rfl, Nat.le_refl _, by decide, fun _ => rfl, fun i x h => by simp at h⟩
    · exact ha f hf
theorem Hp.keep {L L' : List Asn} {F F' : List Fact} (H : Hp B L F w) [hp : Pick L S L'] [hs : SubF F F'] : Hp B S F' w :=
  Hp.facts (Hp.dropL L' S ((H.perm hp.perm).perm List.perm_append_comm)) fun _ ha => hs.all ha
theorem alloc_as (hT : T.Ok P) (H : Hp B S F w) {t : TypeId} {d : TypeDesc} {i : TypeInfo} {z : Value} (cs : List Value) (ht : T t = some ⟨d, i⟩) (hz : i.zero = some z) (hc : z.cells.toList = cs)
    (k : ∀ n w', Hp B (blk n cs t :: S) F w' → K (.pointer (some ⟨n, 0, none⟩)) w') : AllocK P K w t := by
  subst hc; exact alloc_rule hT H ht hz k
theorem store_as (hT : T.Ok P) (H : Hp B S F w) {n o : Nat} {cs : List Value} {t t0 : TypeId} {d : TD} {x : Value} (cs' : List Value) [hp : TakeB S n cs t0 S'] (ht : T t = some d) (hs : Nat.beq x.cells.toList.length d.info.size = true)
    (hl : Nat.ble (o + x.cells.toList.length) cs.length = true) (h1 : allOne x.cells.toList = true) (hc : setL cs o x.cells.toList = cs')
    (k : ∀ w', Hp B (blk n cs' t0 :: S') F w' → K undef w') : StoreK P K w t (.pointer (some ⟨n, o, none⟩)) x := by
  subst hc; exact store_rule hT H ht hs hl h1 k
/-- A literal is a row of one's own. -/
theorem Hp.toRow (H : Hp B S F w) {g : Nat} {cs : List Value} {e : TypeId} [h1 : TakeB S g cs e S'] (sz n : Nat) (hl : cs.length = n * sz) (hm : n ≤ 9223372036854775807) : Hp B (row e sz (.slice (some ⟨g, 0, none⟩) n n) n cs :: S') F w := by
  have hp' : Take S (blk g cs e) S' := ⟨h1.perm⟩
  refine H.step (A := blk g cs e) rfl rfl rfl (Nat.le_refl _) fun fa ha => ⟨fun _ _ _ => rfl, fa, ⟨⟨hl, .inr ⟨g, n, cs.toArray, rfl, Nat.zero_le _, ha.2, Nat.le_refl _, hm, by simpa using hl, ?_⟩⟩, fun b => ?_⟩, fun b hb => .inl hb⟩
  · rw [← hl]; simp
  · rw [ha.1 b]; simp [Value.ownBlock, eq_comm]
/-- The cells of a list. -/
theorem cells_of {α : Type} {r : Rp α} {I : BS} {b : Nat} : ∀ (xs : List α) (o : Nat), (∀ i x, xs[i]? = some x → r.At w I b (o + i * r.sz) x) → ∃ cs : List Value, cs.length = xs.length * r.sz ∧ CellsAt w b o cs ∧ ∀ i x, xs[i]? = some x → ∃ p, r.ok x p ∧ (cs.drop (i * r.sz)).take r.sz = r.cells x p ∧ All (r.facts x p) w I
  | [], o, _ => ⟨[], by simp, fun j v h => by simp at h, fun i x h => by simp at h⟩
  | x :: xs, o, h => by
    obtain ⟨p, hok, hc, hf⟩ := h 0 x rfl
    rw [Nat.zero_mul, Nat.add_zero] at hc
    obtain ⟨cs, hl, hcs, hx⟩ := cells_of xs (o + r.sz) fun i y hy => by
      have := h (i + 1) y (by simpa using hy)
      rwa [Nat.add_mul, Nat.one_mul, Nat.add_comm (i * r.sz), ← Nat.add_assoc] at this
    have hlen := r.len x p
    refine ⟨r.cells x p ++ cs, ?_, fun j v hj => ?_, fun i y hy => ?_⟩
    · rw [List.length_append, hlen, hl, List.length_cons, Nat.add_mul, Nat.one_mul, Nat.add_comm]
    · rcases Nat.lt_or_ge j r.sz with hjr | hjr
      · rw [List.getElem?_append_left (by omega)] at hj
        exact hc j v hj
      · rw [List.getElem?_append_right (by omega), hlen] at hj
        have := hcs _ v hj
        rwa [Nat.add_assoc, show r.sz + (j - r.sz) = j by omega] at this
    · cases i with
      | zero =>
        simp only [List.getElem?_cons_zero, Option.some.injEq] at hy
        subst hy
        refine ⟨p, hok, ?_, hf⟩
        rw [Nat.zero_mul, List.drop_zero, ← hlen, List.take_left]
      | succ i =>
        obtain ⟨q, h1, h2, h3⟩ := hx i y (by simpa using hy)
        refine ⟨q, h1, ?_, h3⟩
        rw [← h2, Nat.add_mul, Nat.one_mul, Nat.add_comm (i * r.sz), ← List.drop_drop, ← hlen, List.drop_left]
/-- **append(v, l..)**: v a row of one's own, l a slice that reads. -/
theorem append_sl (hT : T.Ok P) (H : Hp B S F w) {e sz n m c : Nat} {A : Option Addr} {v : Value} {cs : List Value} {S1 : List Asn} {t ty : TypeId} {it : TypeInfo} {de : TD} {z : Value} {α : Type} {r : Rp α} {xs : List α} [h1 : TakeR S v e sz n cs S1] [h2 : InSl F A m c r xs]
    {cst : List Bool} (ht : T t = some ⟨.slice e, it⟩) (he : T e = some de) (hz : de.info.zero = some z) (hzs : Nat.beq z.cells.size sz = true) (hsz : Nat.beq de.info.size sz = true) (hp : Nat.ble 1 sz = true) (hr : sz = r.sz) (ho : ∀ x p, r.ok x p → ∀ u, u ∈ r.cells x p → u.oneCell' = true)
    (hb : (n + m) * de.info.bytes ≤ 140737488355328) (hm : n + m ≤ 140737488355328)
    (k : ∀ A' c' news w', Hp B (row e sz (.slice A' (n + m) c') (n + m) (cs ++ news) :: S1) (Cl r news xs :: F) w' → K (.slice A' (n + m) c') w') : BuiltinK P K w .append [t, t] ty cst [v, .slice A m c] := by
  have H1 := H.perm h1.perm
  obtain ⟨fa, hfa⟩ := Hp.own (A := row e sz v n cs) (S' := S1) (hp := ⟨.refl _⟩) H1
  have hsz' := Nat.eq_of_beq_eq_true hsz
  have fin : ∀ v' w' news, (∀ I, All F w I → (Cl r news xs).holds w I) → w'.ownsRow 0 e sz v' (n + m) (cs ++ news) → w.grownBy w' v.ownBlock → (v'.ownBlock = v.ownBlock ∨ v'.ownBlock = some w.heap.size) → (Builtin.append_ #[t, t] ty #[v, .slice A m c]).run P w = .ok v' w' → BuiltinK P K w .append [t, t] ty cst [v, .slice A m c] := by
    intro v' w' news hcl hown hg hat hr
    have H2 : Hp B (row e sz v n cs :: S1) (Cl r news xs :: F) w := H1.facts fun I ha f hf => by
      rcases List.mem_cons.1 hf with rfl | hf
      · exact hcl I ha
      · exact ha f hf
    have H3 : Hp B (row e sz v' (n + m) (cs ++ news) :: S1) (Cl r news xs :: F) w' := by
      refine Hp.step (A := row e sz v n cs) (hp := ⟨.refl _⟩) H2 hg.os hg.tape hg.output hg.size fun fa ha => ⟨fun k hk hn => hg.block k hk fun e => hn ((ha.2 k).2 e.symm), fun k => v'.ownBlock = some k, ⟨hown, fun _ => Iff.rfl⟩, fun k hk => ?_⟩
      rcases hat with h | h
      · exact .inl ((ha.2 k).2 (h ▸ hk))
      · rw [h] at hk
        injection hk with hk
        subst hk
        exact .inr (Nat.le_refl _)
    obtain ⟨A', c', rfl, _⟩ := row_shape (w := w') (fp := fun k => v'.ownBlock = some k) ⟨hown, fun _ => Iff.rfl⟩
    refine BuiltinK.of (v := .slice A' (n + m) c') (w' := w') ?_ (k A' c' news w' H3)
    simp only [builtin]
    rw [Sem.run_bind]
    have hr' : (Builtin.append_ [t, t].toArray ty [v, .slice A m c].toArray).run P w = .ok (.slice A' (n + m) c') w' := hr
    rw [hr']; rfl
  have hF : ∀ I, All F w I → ∃ A' c', (Value.slice A m c) = .slice A' xs.length c' ∧ xs.length ≤ c' ∧ c' ≤ 9223372036854775807 ∧ (A' = none → c' = 0) ∧ ∀ (i : Nat) x, xs[i]? = some x → ∃ b o, A' = some ⟨b, o, none⟩ ∧ I b ∧ r.At w I b (o + i * r.sz) x := fun I ha => ha _ h2.mem
  obtain ⟨I0, fp0, hs0, ha0, _⟩ := H.ex
  obtain ⟨A', c', e1, _, _, hA0, hel⟩ := hF I0 ha0
  injection e1 with e1 e2 e3
  subst e1 e2 e3
  cases xs with
  | nil =>
    have hcl : ∀ I, All F w I → (Cl r ([] : List Value) ([] : List α)).holds w I := fun I _ => ⟨by simp, fun i x h => by simp at h⟩
    cases A with
    | none =>
      obtain rfl := hA0 rfl
      refine fin v w [] hcl (by simpa using hfa.1) ⟨rfl, rfl, rfl, Nat.le_refl _, fun _ _ _ => rfl⟩ (.inl rfl) ?_
      exact run_append_owned_none (P := P) w 0 t ty e de.info sz (hT t _ ht).1 (hT e _ he).2 v n cs hfa.1
    | some a =>
      obtain ⟨v', w', hrun, hown, hg, _, hat⟩ := run_append_own_at (P := P) w 0 t ty e de.info z sz de.info.bytes (hT t _ ht).1 (hT e _ he).2 hz hsz' rfl (Nat.eq_of_beq_eq_true hzs) (Nat.le_of_ble_eq_true hp) v n cs hfa.1 a ([] : List α).length c [] (by simp)
        (fun j u hj => by simp at hj) (fun u hu => by cases hu) (by unfold maxLen; omega) hb (Nat.zero_le _)
      exact fin v' w' [] hcl hown hg hat hrun
  | cons x xs =>
    obtain ⟨b, o, rfl, _, _⟩ := hel 0 x rfl
    have hcells : ∀ I, All F w I → ∃ cs : List Value, cs.length = (x :: xs).length * r.sz ∧ CellsAt w b o cs ∧ ∀ i y, (x :: xs)[i]? = some y → ∃ p, r.ok y p ∧ (cs.drop (i * r.sz)).take r.sz = r.cells y p ∧ All (r.facts y p) w I := fun I ha => by
      obtain ⟨A2, c2, e4, _, _, _, hel2⟩ := hF I ha
      injection e4 with e4 e5 e6
      subst e4 e6
      refine cells_of _ o fun i y hy => ?_
      obtain ⟨b', o', e7, _, hat⟩ := hel2 i y hy
      injection e7 with e7
      injection e7 with e7 e8
      subst e7 e8
      exact hat
    obtain ⟨news, hl, hcs, hx⟩ := hcells I0 ha0
    have hcl : ∀ I, All F w I → (Cl r news (x :: xs)).holds w I := fun I ha => by
      obtain ⟨news', hl', hcs', hx'⟩ := hcells I ha
      obtain rfl : news' = news := by
        apply List.ext_getElem (by omega)
        intro i h1 h2
        have q1 := hcs' i _ (List.getElem?_eq_getElem h1)
        have q2 := hcs i _ (List.getElem?_eq_getElem h2)
        rw [q1] at q2
        exact Option.some.inj q2
      exact ⟨hl, hx'⟩
    have hone : ∀ u, u ∈ news → u.oneCell' = true := fun u hu => by
      obtain ⟨j, hj, rfl⟩ := List.mem_iff_getElem.1 hu
      have hsz0 : 0 < r.sz := by rw [← hr]; exact Nat.le_of_ble_eq_true hp
      have hi : j / r.sz < (x :: xs).length := by rw [Nat.div_lt_iff_lt_mul hsz0, ← hl]; exact hj
      obtain ⟨p, hok, hce, _⟩ := hx (j / r.sz) _ (List.getElem?_eq_getElem hi)
      refine ho _ p hok _ ?_
      rw [← hce]
      have hmod := Nat.mod_lt j hsz0
      have hdm : j / r.sz * r.sz + j % r.sz = j := Nat.div_add_mod' j r.sz
      refine List.mem_iff_getElem?.2 ⟨j % r.sz, ?_⟩
      rw [List.getElem?_take, if_pos hmod, List.getElem?_drop, hdm, List.getElem?_eq_getElem hj]
    obtain ⟨v', w', hrun, hown, hg, _, hat⟩ := run_append_own_at (P := P) w 0 t ty e de.info z sz de.info.bytes (hT t _ ht).1 (hT e _ he).2 hz hsz' rfl (Nat.eq_of_beq_eq_true hzs) (Nat.le_of_ble_eq_true hp) v n cs hfa.1 ⟨b, o, none⟩ (x :: xs).length c news (by rw [hl, hr])
      (fun j u hj => by rw [add_plain]; exact hcs j u hj) hone (by unfold maxLen; omega) hb (Nat.zero_le _)
    exact fin v' w' news hcl hown hg hat hrun
theorem addr_zero (a : Addr) : a.add 0 = a := by
  unfold Addr.add
  split <;> simp_all
/-- v[:k] of a slice that reads. -/
theorem slice_sl (hT : T.Ok P) (H : Hp B S F w) {A : Option Addr} {n c k : Nat} {t : TypeId} {α : Type} {r : Rp α} {xs : List α} {hi : Value} {kd : IntKind} {e : TypeId} {it : TypeInfo} [h2 : InSl F A n c r xs] {de : TD} (ht : T t = some ⟨.slice e, it⟩) (hte : T e = some de) (hhi : hi = .int kd k) (hk : k ≤ n)
    (kk : Hp B S (Sl r (.slice A k c) (xs.take k) :: F) w → K (.slice A k c) w) : SliceK P K w t (.slice A n c) none (some hi) none := by
  subst hhi
  obtain ⟨hnx, hc, hc2⟩ := H.sll (A := A) (n := n) (c := c)
  refine SliceK.of (v := .slice A k c) (w' := w) ?_ (kk (H.facts fun I ha f hf => ?_))
  · have hel : P.underlying t = some (.slice (P.elem t)) := by unfold Program.elem; rw [(hT t _ ht).1]
    have he : P.elem t = e := by unfold Program.elem; rw [(hT t _ ht).1]
    have hs : ∃ s, (sizeOf (P.elem t)).run P w = .ok s w := by rw [he]; exact ⟨_, run_szOf hT hte w⟩
    obtain ⟨s, hs⟩ := hs
    rw [run_sliceAt_slice w t _ _ _ _ hel, run_slice_h w t A n c hel kd k (by omega) (by omega), hs]
    simp only [Result.andThen_ok, sliced, Int.toNat_natCast, Nat.zero_mul, Nat.sub_zero]
    congr 2
    split
    · rfl
    · cases A with
      | none => rfl
      | some a => exact congrArg some (addr_zero a)
  · rcases List.mem_cons.1 hf with rfl | hf
    · obtain ⟨A', c', e1, q1, q2, q3, q4⟩ := ha _ h2.mem
      injection e1 with e1 e2 e3
      subst e1 e3
      refine ⟨A, c, by rw [List.length_take, Nat.min_eq_left (by omega)], by rw [List.length_take]; omega, hc2, q3, fun i x hx => q4 i x ?_⟩
      rw [List.getElem?_take] at hx
      split at hx
      · exact hx
      · cases hx
    · exact ha f hf
/-- Where the elements of a slice lie that reads. -/
theorem Hp.slAt (H : Hp B S F w) {A : Option Addr} {n c : Nat} {α : Type} {r : Rp α} {xs : List α} [hp : InSl F A n c r xs] (h : 0 < n) : ∃ b o, A = some ⟨b, o, none⟩ := by
  obtain ⟨I, fp, _, ha, _⟩ := H.ex
  obtain ⟨A', c', e1, _, _, _, q4⟩ := ha _ hp.mem
  injection e1 with e1 e2 e3
  subst e1 e2 e3
  obtain ⟨x, hx⟩ : ∃ x, xs[0]? = some x := ⟨xs[0]'h, List.getElem?_eq_getElem _⟩
  obtain ⟨b, o, rfl, _⟩ := q4 0 x hx
  exact ⟨b, o, rfl⟩
/-- Reading an element, or a part of it, in place. -/
theorem sl_ld (hT : T.Ok P) (H : Hp B S F w) {b o n c j f off : Nat} {α : Type} {r : Rp α} {xs : List α} {x : α} {t : TypeId} (v : Value) [hp : InSl F (some ⟨b, o, none⟩) n c r xs] (hx : xs[j]? = some x) (hoff : off = o + j * r.sz + f)
    (hv : ∀ p, r.ok x p → ldV (T t) (r.cells x p) f = some v) (k : K v w) : LoadK P K w t (.pointer (some ⟨b, off, none⟩)) := by
  obtain ⟨I, fp, _, ha, _⟩ := H.ex
  obtain ⟨A', c', e1, _, _, _, q4⟩ := ha _ hp.mem
  injection e1 with e1 e2 e3
  subst e1
  obtain ⟨b', o', e4, _, p, hok, hc, _⟩ := q4 j x hx
  injection e4 with e4
  injection e4 with e4 e5
  subst e4 e5 hoff
  exact (hc.of_ld hT (hv p hok)).load k
end
end Go.Wk
