/- Legs summed one by one, and account by account: the same. -/
import Derived.Test.YtenpgmnknmnofaaDoorT16
namespace Go.Proofs.YtenpgmnknmnofaaDoor
open Go Go.Proofs Go.Wk
theorem lk_putL {a k : Int} {v : Int} : ∀ {m : List (Int × Int)}, lk k (putL a v m) = if a = k then some v else lk k m
  | [] => by
    unfold putL lk
    by_cases h : a = k
    · simp [h]
    · simp [h, lk]
  | q :: m => by
    unfold putL
    by_cases hq : q.1 = a
    · rw [if_pos hq]
      unfold lk
      by_cases h : a = k
      · simp [h]
      · have : q.1 ≠ k := by rw [hq]; exact h
        simp [h, this]
    · rw [if_neg hq]
      unfold lk
      rw [lk_putL (m := m)]
      by_cases h : a = k
      · subst h; simp [hq]
      · simp [h]
theorem sum_acc : ∀ (ls : List Leg) (m : List (Int × Int)), match sumGo ls m with
    | some m' => ∀ k, accGo k ls ((lk k m).getD 0) (lk k m).isSome = some ((lk k m').getD 0, (lk k m').isSome)
    | none => ∃ l, l ∈ ls ∧ accGo l.acct ls ((lk l.acct m).getD 0) (lk l.acct m).isSome = none
  | [], m => by simp [sumGo, accGo]
  | l :: r, m => by
    unfold sumGo
    by_cases hin : in64 ((lk l.acct m).getD 0 + l.amt) = true
    · rw [if_pos hin]
      have ih := sum_acc r (putL l.acct ((lk l.acct m).getD 0 + l.amt) m)
      have step : ∀ k, accGo k (l :: r) ((lk k m).getD 0) (lk k m).isSome = accGo k r ((lk k (putL l.acct ((lk l.acct m).getD 0 + l.amt) m)).getD 0) (lk k (putL l.acct ((lk l.acct m).getD 0 + l.amt) m)).isSome := fun k => by
        rw [lk_putL]
        by_cases hk : l.acct = k
        · subst hk; simp [accGo, hin]
        · simp [accGo, hk]
      cases hs : sumGo r (putL l.acct ((lk l.acct m).getD 0 + l.amt) m) with
      | some m' => rw [hs] at ih; exact fun k => (step k).trans (ih k)
      | none =>
        rw [hs] at ih
        obtain ⟨x, hx, h⟩ := ih
        exact ⟨x, List.mem_cons_of_mem _ hx, (step _).trans h⟩
    · rw [if_neg hin]
      exact ⟨l, List.mem_cons_self, by simp [accGo, hin]⟩
/-- What the document lists from an account on. -/
def refL (ls : List Leg) : Nat → Nat → List Leg
  | 0, _ => []
  | d + 1, k => match accGo k ls 0 false with
    | some (s, true) => ⟨k, s⟩ :: refL ls d (k + 1)
    | _ => refL ls d (k + 1)
theorem refGo_none {ls : List Leg} : ∀ (d k : Nat) (out : List Leg) (j : Nat), k ≤ j → j < k + d → accGo j ls 0 false = none → refGo ls d k out = []
  | 0, k, out, j, h1, h2, _ => by omega
  | d + 1, k, out, j, h1, h2, h => by
    unfold refGo
    cases hk : accGo k ls 0 false with
    | none => rfl
    | some p =>
      obtain ⟨s, b⟩ := p
      have hne : j ≠ k := fun e => by rw [e, hk] at h; cases h
      exact refGo_none d (k + 1) _ j (by omega) (by omega) h
theorem refGo_some {ls : List Leg} : ∀ (d k : Nat) (out : List Leg), (∀ j : Nat, accGo j ls 0 false ≠ none) → refGo ls d k out = out ++ refL ls d k
  | 0, k, out, _ => by simp [refGo, refL]
  | d + 1, k, out, h => by
    unfold refGo refL
    cases hk : accGo k ls 0 false with
    | none => exact absurd hk (h k)
    | some p =>
      obtain ⟨s, b⟩ := p
      cases b with
      | false => exact refGo_some d (k + 1) _ h
      | true =>
        simp only [if_true]
        rw [refGo_some d (k + 1) _ h]; simp
theorem mem_refL {ls : List Leg} {x : Leg} : ∀ (d k : Nat), x ∈ refL ls d k → ∃ j : Nat, k ≤ j ∧ j < k + d ∧ x.acct = j ∧ accGo j ls 0 false = some (x.amt, true)
  | 0, k, h => by simp [refL] at h
  | d + 1, k, h => by
    unfold refL at h
    split at h
    · rename_i s hk
      rcases List.mem_cons.1 h with rfl | h
      · exact ⟨k, by omega, by omega, rfl, hk⟩
      · obtain ⟨j, h1, h2, h3⟩ := mem_refL d (k + 1) h
        exact ⟨j, by omega, by omega, h3⟩
    · obtain ⟨j, h1, h2, h3⟩ := mem_refL d (k + 1) h
      exact ⟨j, by omega, by omega, h3⟩
theorem refL_mem {ls : List Leg} {j : Nat} {s : Int} (h : accGo j ls 0 false = some (s, true)) : ∀ (d k : Nat), k ≤ j → j < k + d → (⟨j, s⟩ : Leg) ∈ refL ls d k
  | 0, k, h1, h2 => by omega
  | d + 1, k, h1, h2 => by
    unfold refL
    by_cases hk : j = k
    · subst hk
      rw [h]; exact List.mem_cons_self
    · have ih := refL_mem h d (k + 1) (by omega) (by omega)
      split
      · exact List.mem_cons_of_mem _ ih
      · exact ih
def rise (l : List Leg) : Prop := l.Pairwise fun a b => a.acct < b.acct
theorem refL_rise {ls : List Leg} : ∀ (d k : Nat), rise (refL ls d k)
  | 0, k => List.Pairwise.nil
  | d + 1, k => by
    unfold refL
    split
    · refine List.pairwise_cons.2 ⟨fun y hy => ?_, refL_rise d (k + 1)⟩
      obtain ⟨j, h1, h2, h3, _⟩ := mem_refL d (k + 1) hy
      rw [h3]; simp only; omega
    · exact refL_rise d (k + 1)
theorem rise_eq : ∀ {a b : List Leg}, rise a → rise b → (∀ x, x ∈ a ↔ x ∈ b) → a = b
  | [], [], _, _, _ => rfl
  | [], y :: b, _, _, h => absurd ((h y).2 List.mem_cons_self) (by simp)
  | x :: a, [], _, _, h => absurd ((h x).1 List.mem_cons_self) (by simp)
  | x :: a, y :: b, ha, hb, h => by
    obtain ⟨ha1, ha2⟩ := List.pairwise_cons.1 ha
    obtain ⟨hb1, hb2⟩ := List.pairwise_cons.1 hb
    have hxy : x = y := by
      rcases List.mem_cons.1 ((h x).1 List.mem_cons_self) with e | e
      · exact e
      · rcases List.mem_cons.1 ((h y).2 List.mem_cons_self) with e2 | e2
        · exact e2.symm
        · have q1 := hb1 x e
          have q2 := ha1 y e2
          omega
    subst hxy
    rw [rise_eq ha2 hb2 fun z => ⟨fun hz => ?_, fun hz => ?_⟩]
    · rcases List.mem_cons.1 ((h z).1 (List.mem_cons_of_mem _ hz)) with e | e
      · have := ha1 z hz; rw [e] at this; omega
      · exact e
    · rcases List.mem_cons.1 ((h z).2 (List.mem_cons_of_mem _ hz)) with e | e
      · have := hb1 z hz; rw [e] at this; omega
      · exact e
theorem putL_keys {a v : Int} : ∀ {m : List (Int × Int)} (k : Int), k ∈ (putL a v m).map Prod.fst → k = a ∨ k ∈ m.map Prod.fst
  | [], k, h => by simpa [putL] using h
  | q :: m, k, h => by
    unfold putL at h
    split at h
    · simp only [List.map_cons, List.mem_cons] at h ⊢
      exact h.imp id .inr
    · simp only [List.map_cons, List.mem_cons] at h ⊢
      rcases h with h | h
      · exact .inr (.inl h)
      · exact (putL_keys k h).imp id .inr
theorem putL_nodup {a v : Int} : ∀ {m : List (Int × Int)}, (m.map Prod.fst).Nodup → ((putL a v m).map Prod.fst).Nodup
  | [], _ => by simp [putL]
  | q :: m, h => by
    simp only [List.map_cons, List.nodup_cons] at h
    unfold putL
    split
    · rename_i hq
      simp only [List.map_cons, List.nodup_cons]
      rw [← hq]; exact h
    · rename_i hq
      simp only [List.map_cons, List.nodup_cons]
      exact ⟨fun hm => (putL_keys _ hm).elim hq h.1, putL_nodup h.2⟩
theorem sumGo_nodup : ∀ {ls : List Leg} {m m' : List (Int × Int)}, (m.map Prod.fst).Nodup → sumGo ls m = some m' → (m'.map Prod.fst).Nodup
  | [], m, m', h, e => by simp only [sumGo, Option.some.injEq] at e; subst e; exact h
  | l :: r, m, m', h, e => by
    unfold sumGo at e
    split at e
    · exact sumGo_nodup (putL_nodup h) e
    · cases e
theorem lk_iff {k v : Int} : ∀ {m : List (Int × Int)}, (m.map Prod.fst).Nodup → ((k, v) ∈ m ↔ lk k m = some v)
  | [], _ => by simp [lk]
  | q :: m, h => by
    simp only [List.map_cons, List.nodup_cons] at h
    unfold lk
    by_cases hq : q.1 = k
    · rw [if_pos hq]
      constructor
      · intro hm
        rcases List.mem_cons.1 hm with e | e
        · rw [← e]
        · exact absurd (List.mem_map_of_mem (f := Prod.fst) e) (by rw [← hq]; exact h.1)
      · intro e
        rw [← hq, ← Option.some.inj e]; exact List.mem_cons_self
    · rw [if_neg hq, ← lk_iff h.2]
      constructor
      · intro hm
        rcases List.mem_cons.1 hm with e | e
        · rw [← e] at hq; exact absurd rfl hq
        · exact e
      · exact List.mem_cons_of_mem _
theorem accGo_true {k : Int} : ∀ {ls : List Leg} {s s' : Int}, accGo k ls s false = some (s', true) → ∃ l, l ∈ ls ∧ l.acct = k
  | [], s, s', h => by simp [accGo] at h
  | l :: r, s, s', h => by
    unfold accGo at h
    by_cases hk : l.acct = k
    · exact ⟨l, List.mem_cons_self, hk⟩
    · rw [if_neg hk] at h
      obtain ⟨x, hx, e⟩ := accGo_true h
      exact ⟨x, List.mem_cons_of_mem _ hx, e⟩
theorem made_ref {ls out : List Leg} (hr : ∀ x, x ∈ ls → inK .u8 x.acct) (h : made ls out) : out = refMade ls := by
  have hsa := sum_acc ls []
  unfold made at h
  unfold refMade
  cases hs : sumGo ls [] with
  | none =>
    rw [hs] at h hsa
    obtain ⟨l, hl, ha⟩ := hsa
    obtain ⟨h0, h1⟩ := hr l hl
    simp only [kLo, kHi] at h0 h1
    have ha : accGo l.acct ls 0 false = none := ha
    have e : ((l.acct.toNat : Nat) : Int) = l.acct := by omega
    rw [refGo_none 256 0 [] l.acct.toNat (by omega) (by omega) (by rw [e]; exact ha)]
    exact h
  | some m =>
    rw [hs] at h hsa
    obtain ⟨hp, hsrt⟩ := h
    have hsa : ∀ k, accGo k ls 0 false = some ((lk k m).getD 0, (lk k m).isSome) := hsa
    have hnd := sumGo_nodup (by simp) hs
    rw [refGo_some 256 0 [] (fun j => by rw [hsa]; simp), List.nil_append]
    have hmem : ∀ x : Leg, x ∈ out ↔ lk x.acct m = some x.amt := fun x => by
      rw [hp.mem_iff, ← lk_iff hnd]
      constructor
      · intro h
        obtain ⟨q, hq, rfl⟩ := List.mem_map.1 h
        exact hq
      · intro h
        exact List.mem_map.2 ⟨(x.acct, x.amt), h, rfl⟩
    have hrise : rise out := by
      have hnd2 : (out.map Leg.acct).Nodup := by
        have := (hp.map Leg.acct).nodup_iff.2 (by rw [List.map_map]; exact hnd)
        exact this
      have h1 : out.Pairwise fun a b => a.acct ≠ b.acct := List.pairwise_map.1 hnd2
      exact (hsrt.and h1).imp fun h => by omega
    refine rise_eq hrise (refL_rise 256 0) fun x => ?_
    rw [hmem]
    constructor
    · intro hx
      have ha : accGo x.acct ls 0 false = some (x.amt, true) := by rw [hsa, hx]; rfl
      obtain ⟨l, hl, el⟩ := accGo_true ha
      obtain ⟨h0, h1⟩ := hr l hl
      simp only [kLo, kHi] at h0 h1
      have e : ((x.acct.toNat : Nat) : Int) = x.acct := by omega
      have := refL_mem (j := x.acct.toNat) (s := x.amt) (by rw [e]; exact ha) 256 0 (by omega) (by omega)
      rw [e] at this
      exact this
    · intro hx
      obtain ⟨j, _, _, e, ha⟩ := mem_refL 256 0 hx
      rw [hsa, ← e] at ha
      cases hl : lk x.acct m with
      | none => rw [hl] at ha; simp at ha
      | some v => rw [hl] at ha; simp at ha; rw [ha]
end Go.Proofs.YtenpgmnknmnofaaDoor
