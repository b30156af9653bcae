/- The plain law of a ledger: what is posted and reversed is the document's. -/
import Derived.Test.YtfemfomgmopibaaGreatDoorB11
namespace Go.Proofs.YtfemfomgmopibaaGreatDoor
open Go Go.Proofs Go.Wk
theorem rightGo_rise : ∀ {ls : List Leg} {s last : Int}, rightGo s last ls = true → (∀ x, x ∈ ls → last < x.acct) ∧ rise ls
  | [], _, _, _ => ⟨(fun x h => by cases h), List.Pairwise.nil⟩
  | x :: r, s, last, h => by
    obtain ⟨_, h2, h3⟩ := go_step h
    obtain ⟨h4, h5⟩ := rightGo_rise h3
    refine ⟨fun y hy => ?_, List.pairwise_cons.2 ⟨fun y hy => h4 y hy, h5⟩⟩
    rcases List.mem_cons.1 hy with rfl | hy
    · exact h2
    · have := h4 y hy; omega
theorem rightB_rise {k : Key} {ls : List Leg} (h : rightB k ls = true) : rise ls := (rightGo_rise (rightB_go h)).2
/-- How much a list has of an account: the first. -/
def amtOf (a : Int) : List Leg → Option Int
  | [] => none
  | g :: r => if g.acct = a then some g.amt else amtOf a r
theorem amtOf_none {a : Int} : ∀ {ls : List Leg}, (∀ x, x ∈ ls → x.acct ≠ a) → amtOf a ls = none
  | [], _ => rfl
  | g :: r, h => by rw [amtOf, if_neg (h g List.mem_cons_self), amtOf_none fun x hx => h x (List.mem_cons_of_mem _ hx)]
theorem amtOf_mem {g : Leg} : ∀ {ls : List Leg}, rise ls → g ∈ ls → amtOf g.acct ls = some g.amt
  | [], _, h => by cases h
  | x :: r, hr, h => by
    have hr' := List.pairwise_cons.1 hr
    rcases List.mem_cons.1 h with rfl | h
    · rw [amtOf, if_pos rfl]
    · rw [amtOf, if_neg (by have := hr'.1 g h; omega), amtOf_mem hr'.2 h]
theorem amtOf_some {a v : Int} : ∀ {ls : List Leg}, amtOf a ls = some v → ∃ g, g ∈ ls ∧ g.acct = a ∧ g.amt = v
  | [], h => by cases h
  | g :: r, h => by
    unfold amtOf at h
    split at h
    · rename_i hg
      exact ⟨g, List.mem_cons_self, hg, Option.some.inj h⟩
    · obtain ⟨x, hx, h1, h2⟩ := amtOf_some h
      exact ⟨x, List.mem_cons_of_mem _ hx, h1, h2⟩
theorem legSum_amt {a : Int} : ∀ {ls : List Leg} {s : Int}, rise ls → legSum a ls s = (match amtOf a ls with
    | none => some s
    | some v => if in64 (s + v) = true then some (s + v) else none)
  | [], s, _ => rfl
  | g :: r, s, hr => by
    have hr' := List.pairwise_cons.1 hr
    unfold legSum amtOf
    by_cases hg : g.acct = a
    · rw [if_pos hg, if_pos hg]
      have hn : amtOf a r = none := amtOf_none fun x hx => by have := hr'.1 x hx; omega
      simp only
      rw [legSum_amt hr'.2, hn]
    · rw [if_neg hg, if_neg hg, legSum_amt hr'.2]
def updP (sums : List (Pr × Int)) (loan : Int) (ls : List Leg) (p : Pr) : Option Int :=
  if p.loan = (if p.ctl = true then 0 else loan) then (amtOf p.acct ls).map (getS sums p + ·) else none
theorem nextGo_some {sums : List (Pr × Int)} {loan : Int} : ∀ {ls : List Leg} {nx out : List (Pr × Int)}, rise ls → nextGo sums loan ls nx = some out →
    (∀ g, g ∈ ls → in64 (getS sums ⟨loan, g.acct, false⟩ + g.amt) = true ∧ in64 (getS sums ⟨0, g.acct, true⟩ + g.amt) = true) ∧ ∀ p, lk p out = (updP sums loan ls p).or (lk p nx)
  | [], nx, out, _, h => by
    simp only [nextGo, Option.some.injEq] at h
    subst h
    refine ⟨(fun g h => by cases h), fun p => ?_⟩
    have e : updP sums loan [] p = none := by unfold updP; simp [amtOf]
    rw [e]; rfl
  | g :: r, nx, out, hr, h => by
    have hr' := List.pairwise_cons.1 hr
    unfold nextGo at h
    split at h
    · rename_i hin
      obtain ⟨h1, h2⟩ := nextGo_some hr'.2 h
      refine ⟨fun x hx => ?_, fun p => ?_⟩
      · rcases List.mem_cons.1 hx with rfl | hx
        · exact hin
        · exact h1 x hx
      · rw [h2 p]
        obtain ⟨pl, pa, pc⟩ := p
        have hgr : amtOf g.acct r = none := amtOf_none fun x hx => by have := hr'.1 x hx; omega
        have e : amtOf pa (g :: r) = if g.acct = pa then some g.amt else amtOf pa r := rfl
        unfold updP
        simp only [e]
        by_cases hpa : g.acct = pa
        · subst hpa
          rw [if_pos rfl, hgr]
          cases pc with
          | false =>
            simp only [Bool.false_eq_true, if_false]
            by_cases hl : pl = loan
            · subst hl
              rw [if_pos rfl, if_pos rfl, lk_put_ne (by simp), lk_put_eq]; rfl
            · rw [if_neg hl, if_neg hl, lk_put_ne (by simp), lk_put_ne (by simp [hl])]
          | true =>
            simp only [if_true]
            by_cases hl : pl = 0
            · subst hl
              rw [if_pos rfl, if_pos rfl, lk_put_eq]; rfl
            · rw [if_neg hl, if_neg hl, lk_put_ne (by simp [hl]), lk_put_ne (by simp)]
        · rw [if_neg hpa, lk_put_ne (by simp [Ne.symm hpa]), lk_put_ne (by simp [Ne.symm hpa])]
    · cases h
theorem nextGo_none {sums : List (Pr × Int)} {loan : Int} : ∀ {ls : List Leg} {nx : List (Pr × Int)}, nextGo sums loan ls nx = none →
    ∃ g, g ∈ ls ∧ ¬ (in64 (getS sums ⟨loan, g.acct, false⟩ + g.amt) = true ∧ in64 (getS sums ⟨0, g.acct, true⟩ + g.amt) = true)
  | [], nx, h => by cases h
  | g :: r, nx, h => by
    unfold nextGo at h
    split at h
    · obtain ⟨x, hx, hn⟩ := nextGo_none h
      exact ⟨x, List.mem_cons_of_mem _ hx, hn⟩
    · rename_i hn
      exact ⟨g, List.mem_cons_self, hn⟩
theorem linSum_app {loan a : Int} {all : Bool} {x : Ln} : ∀ {xs : List Ln} {s : Int}, linSum loan all a (xs ++ [x]) s = (match linSum loan all a xs s with
    | none => none
    | some t => if all = false ∧ x.k.loan ≠ loan then some t else legSum a x.ls t)
  | [], s => by
    simp only [List.nil_append, linSum]
    split
    · rfl
    · cases legSum a x.ls s <;> rfl
  | y :: r, s => by
    simp only [List.cons_append, linSum]
    split
    · exact linSum_app
    · cases legSum a y.ls s with
      | none => rfl
      | some t => exact linSum_app
theorem liveGo_app {k : Key} {x : Ln} : ∀ {xs : List Ln} {i o : Int}, liveGo k (xs ++ [x]) i o = liveSt k x (i + xs.length) (liveGo k xs i o)
  | [], i, o => by simp [liveGo]
  | y :: r, i, o => by
    simp only [List.cons_append, liveGo, List.length_cons]
    rw [liveGo_app]
    congr 1
    omega
theorem addChk_iff {loan : Int} {xs : List Ln} : ∀ {ls : List Leg}, addChk loan xs ls = true ↔ ∀ g, g ∈ ls → (linSum loan false g.acct xs 0).isSome = true ∧ (linSum 0 true g.acct xs 0).isSome = true
  | [] => ⟨fun _ g h => (by cases h), fun _ => rfl⟩
  | g :: r => by
    rw [addChk, Bool.and_eq_true, Bool.and_eq_true, addChk_iff]
    constructor
    · rintro ⟨h1, h2, h3⟩ x hx
      rcases List.mem_cons.1 hx with rfl | hx
      · exact ⟨h1, h2⟩
      · exact h3 x hx
    · intro h
      exact ⟨(h g List.mem_cons_self).1, (h g List.mem_cons_self).2, fun x hx => h x (List.mem_cons_of_mem _ hx)⟩
@[reducible] def stp (x : Ln) : Key × Int × List Leg := (x.k, x.of, x.ls)
theorem liveGo_sim {k : Key} : ∀ {xs ys : List Ln} {i o : Int}, xs.map stp = ys.map stp → liveGo k xs i o = liveGo k ys i o
  | [], [], _, _, _ => rfl
  | [], _ :: _, _, _, h => by cases h
  | _ :: _, [], _, _, h => by cases h
  | x :: xs, y :: ys, i, o, h => by
    simp only [List.map_cons, List.cons.injEq, stp, Prod.mk.injEq] at h
    obtain ⟨⟨h1, h2, h3⟩, h4⟩ := h
    rw [liveGo, liveGo, liveGo_sim h4, liveSt, liveSt, h1, h2]
theorem linSum_sim {loan a : Int} {all : Bool} : ∀ {xs ys : List Ln} {s : Int}, xs.map stp = ys.map stp → linSum loan all a xs s = linSum loan all a ys s
  | [], [], _, _ => rfl
  | [], _ :: _, _, h => by cases h
  | _ :: _, [], _, h => by cases h
  | x :: xs, y :: ys, s, h => by
    simp only [List.map_cons, List.cons.injEq, stp, Prod.mk.injEq] at h
    obtain ⟨⟨h1, h2, h3⟩, h4⟩ := h
    unfold linSum
    rw [h1, h3]
    split
    · exact linSum_sim h4
    · cases legSum a y.ls s with
      | none => rfl
      | some t => exact linSum_sim h4
theorem addChk_sim {loan : Int} {xs ys : List Ln} (h : xs.map stp = ys.map stp) : ∀ {ls : List Leg}, addChk loan xs ls = addChk loan ys ls
  | [] => rfl
  | g :: r => by rw [addChk, addChk, linSum_sim h, linSum_sim h, addChk_sim h]
def revs : List Ln → Nat
  | [] => 0
  | x :: r => (if x.of = 0 then 0 else 1) + revs r
theorem revs_app : ∀ {xs ys : List Ln}, revs (xs ++ ys) = revs xs + revs ys
  | [], ys => by simp [revs]
  | x :: xs, ys => by rw [List.cons_append, revs, revs, revs_app]; omega
structure Inv (d : Led) : Prop where
  ok : ∀ x, x ∈ d.lns → (0 ≤ x.of ∧ x.of ≤ d.lns.length) ∧ keyIn x.k ∧ rightB x.k x.ls = true ∧ ∀ g, g ∈ x.ls → legIn g
  nd : (d.live.map (·.1)).Nodup
  live : ∀ k, lk k d.live = if 0 ≤ liveGo k d.lns 0 (-1) then some (liveGo k d.lns 0 (-1)) else none
  at_ : ∀ k, 0 ≤ liveGo k d.lns 0 (-1) → ∃ x, d.lns[(liveGo k d.lns 0 (-1)).toNat]? = some x ∧ x.k = k ∧ x.of = 0
  sumF : ∀ loan a, linSum loan false a d.lns 0 = some (getS d.sums ⟨loan, a, false⟩)
  sumT : ∀ a, linSum 0 true a d.lns 0 = some (getS d.sums ⟨0, a, true⟩)
  in_ : ∀ p, inK .i64 (getS d.sums p)
  back : ∀ (j : Nat) x, d.lns[j]? = some x → x.of ≠ 0 → x.of ≤ j ∧ ∃ y, d.lns[(x.of - 1).toNat]? = some y ∧ y.of = 0 ∧ y.k = x.k
  cnt : d.live.length + 2 * revs d.lns = d.lns.length
theorem inv_nil : Inv ⟨[], [], []⟩ where
  ok := fun x h => by cases h
  nd := List.nodup_nil
  live := fun k => rfl
  at_ := fun k h => absurd h (by show ¬ (0 : Int) ≤ -1; omega)
  sumF := fun _ _ => rfl
  sumT := fun _ => rfl
  in_ := fun p => ⟨by show (-9223372036854775808 : Int) ≤ 0; omega, by show (0 : Int) ≤ 9223372036854775807; omega⟩
  back := fun j x h => by simp at h
  cnt := rfl
/-- The sums behind one more line. -/
theorem add_sums {d : Led} (hI : Inv d) {x : Ln} (hr : rise x.ls) {nx m : List (Pr × Int)} (hn : nextGo d.sums x.k.loan x.ls [] = some nx) (hm : ∀ p, lk p m = (lk p nx).or (lk p d.sums)) :
    (∀ loan a, linSum loan false a (d.lns ++ [x]) 0 = some (getS m ⟨loan, a, false⟩)) ∧ (∀ a, linSum 0 true a (d.lns ++ [x]) 0 = some (getS m ⟨0, a, true⟩)) ∧ ∀ p, inK .i64 (getS m p) := by
  obtain ⟨h1, h2⟩ := nextGo_some hr hn
  have hg : ∀ p, getS m p = ((updP d.sums x.k.loan x.ls p).or (lk p d.sums)).getD 0 := fun p => by
    show (lk p m).getD 0 = _
    rw [hm p, h2 p]
    show (((updP d.sums x.k.loan x.ls p).or none).or (lk p d.sums)).getD 0 = _
    rw [Option.or_none]
  refine ⟨fun loan a => ?_, fun a => ?_, fun p => ?_⟩
  · rw [linSum_app, hI.sumF loan a, hg]
    simp only
    by_cases hl : x.k.loan = loan
    · rw [if_neg (fun h => h.2 hl), legSum_amt hr]
      unfold updP
      simp only [Bool.false_eq_true, if_false]
      rw [if_pos hl.symm]
      cases ha : amtOf a x.ls with
      | none => rfl
      | some v =>
        obtain ⟨g, hg1, hg2, hg3⟩ := amtOf_some ha
        have := (h1 g hg1).1
        rw [hg2, hg3, hl] at this
        simp only [this, if_true]; rfl
    · rw [if_pos ⟨trivial, hl⟩]
      unfold updP
      simp only [Bool.false_eq_true, if_false]
      rw [if_neg (Ne.symm hl)]; rfl
  · rw [linSum_app, hI.sumT a, hg]
    simp only
    rw [if_neg (fun h => by cases h.1), legSum_amt hr]
    unfold updP
    simp only [if_true]
    cases ha : amtOf a x.ls with
    | none => rfl
    | some v =>
      obtain ⟨g, hg1, hg2, hg3⟩ := amtOf_some ha
      have := (h1 g hg1).2
      rw [hg2, hg3] at this
      simp only [this, if_true]; rfl
  · rw [hg]
    cases hu : updP d.sums x.k.loan x.ls p with
    | none => exact hI.in_ p
    | some v =>
      obtain ⟨pl, pa, pc⟩ := p
      have fin : ∀ q : Pr, q.acct = pa → pl = (if pc = true then 0 else x.k.loan) → (∀ g, g ∈ x.ls → g.acct = pa → in64 (getS d.sums ⟨pl, pa, pc⟩ + g.amt) = true) → inK .i64 v := fun q _ hl hq => by
        unfold updP at hu
        simp only at hu
        rw [if_pos hl] at hu
        cases ha : amtOf pa x.ls with
        | none => rw [ha] at hu; cases hu
        | some u =>
          rw [ha] at hu
          simp only [Option.map_some, Option.some.injEq] at hu
          obtain ⟨g, hg1, hg2, hg3⟩ := amtOf_some ha
          have hq := hq g hg1 hg2
          simp only [in64, Bool.and_eq_true, decide_eq_true_eq] at hq
          rw [← hu, ← hg3]
          exact ⟨hq.1, hq.2⟩
      by_cases hl : pl = (if pc = true then 0 else x.k.loan)
      · refine fin ⟨pl, pa, pc⟩ rfl hl fun g hg hga => ?_
        have hq := h1 g hg
        cases pc with
        | false =>
          simp only [Bool.false_eq_true, if_false] at hl
          rw [hl, ← hga]; exact hq.1
        | true =>
          simp only [if_true] at hl
          rw [hl, ← hga]; exact hq.2
      · exfalso
        unfold updP at hu
        simp only at hu
        rw [if_neg hl] at hu
        cases hu
theorem chk_next {d : Led} (hI : Inv d) {x : Ln} (hr : rise x.ls) : addChk x.k.loan (d.lns ++ [x]) x.ls = (nextGo d.sums x.k.loan x.ls []).isSome := by
  have key : ∀ g, g ∈ x.ls → ((linSum x.k.loan false g.acct (d.lns ++ [x]) 0).isSome = true ↔ in64 (getS d.sums ⟨x.k.loan, g.acct, false⟩ + g.amt) = true) ∧ ((linSum 0 true g.acct (d.lns ++ [x]) 0).isSome = true ↔ in64 (getS d.sums ⟨0, g.acct, true⟩ + g.amt) = true) := fun g hg => by
    constructor
    · rw [linSum_app, hI.sumF]
      simp only
      rw [if_neg (fun h => h.2 rfl), legSum_amt hr, amtOf_mem hr hg]
      simp only
      cases in64 (getS d.sums ⟨x.k.loan, g.acct, false⟩ + g.amt) <;> simp
    · rw [linSum_app, hI.sumT]
      simp only
      rw [if_neg (fun h => by cases h.1), legSum_amt hr, amtOf_mem hr hg]
      simp only
      cases in64 (getS d.sums ⟨0, g.acct, true⟩ + g.amt) <;> simp
  cases hn : nextGo d.sums x.k.loan x.ls [] with
  | none =>
    obtain ⟨g, hg, hne⟩ := nextGo_none hn
    show _ = false
    rw [Bool.eq_false_iff]
    intro h
    have h := addChk_iff.1 h g hg
    exact hne ⟨(key g hg).1.1 h.1, (key g hg).2.1 h.2⟩
  | some nx =>
    obtain ⟨h1, _⟩ := nextGo_some hr hn
    exact addChk_iff.2 fun g hg => ⟨(key g hg).1.2 (h1 g hg).1, (key g hg).2.2 (h1 g hg).2⟩
end Go.Proofs.YtfemfomgmopibaaGreatDoor
