/- What is posted for a loan that has no lines, and reversed, leaves all sums as they were: the plain law. -/
import Derived.Test.YtfemfomgmopibaaGreatDoorB16
set_option linter.unusedVariables false
namespace Go.Proofs.YtfemfomgmopibaaGreatDoor
open Go Go.Proofs Go.Wk
theorem linSum_off {loan a : Int} : ∀ {xs : List Ln} {s : Int}, (∀ x, x ∈ xs → x.k.loan ≠ loan) → linSum loan false a xs s = some s
  | [], s, _ => rfl
  | x :: r, s, h => by
    unfold linSum
    rw [if_pos ⟨rfl, h x List.mem_cons_self⟩]
    exact linSum_off fun y hy => h y (List.mem_cons_of_mem _ hy)
theorem getS_off {d : Led} (hI : Inv d) {loan a : Int} (h : ∀ x, x ∈ d.lns → x.k.loan ≠ loan) : getS d.sums ⟨loan, a, false⟩ = 0 := by
  have := hI.sumF loan a
  rw [linSum_off h] at this
  exact (Option.some.inj this).symm
theorem live_off {d : Led} (hI : Inv d) {k : Key} (h : ∀ x, x ∈ d.lns → x.k ≠ k) : lk k d.live = none := by
  have h1 := hI.live k
  split at h1
  · rename_i h0
    obtain ⟨x, hx, e, _⟩ := hI.at_ k h0
    exact absurd e (h x (List.mem_of_getElem? hx))
  · exact h1
/-- The sums behind a line: those of its accounts have its amounts more. -/
theorem sums_more {sums m nx : List (Pr × Int)} {loan : Int} {ls : List Leg} (hr : rise ls) (hn : nextGo sums loan ls [] = some nx) (hm : ∀ p, lk p m = (lk p nx).or (lk p sums)) (p : Pr) :
    getS m p = getS sums p + if p.loan = (if p.ctl = true then 0 else loan) then (amtOf p.acct ls).getD 0 else 0 := by
  obtain ⟨_, h2⟩ := nextGo_some hr hn
  have : getS m p = ((updP sums loan ls p).or (lk p sums)).getD 0 := by
    show (lk p m).getD 0 = _
    rw [hm p, h2 p]; simp [lk]
  rw [this]
  unfold updP
  by_cases e : p.loan = if p.ctl = true then 0 else loan
  · rw [if_pos e, if_pos e]
    cases amtOf p.acct ls with
    | none => show (lk p sums).getD 0 = (lk p sums).getD 0 + 0; omega
    | some v => rfl
  · rw [if_neg e, if_neg e]
    show (lk p sums).getD 0 = (lk p sums).getD 0 + 0; omega
theorem nextGo_isSome {sums sums' : List (Pr × Int)} {loan : Int} {ls : List Leg} (h : ∀ p, getS sums p = getS sums' p) (hs : (nextGo sums loan ls []).isSome = true) (hr : rise ls) : (nextGo sums' loan ls []).isSome = true := by
  cases hn : nextGo sums' loan ls [] with
  | some _ => rfl
  | none =>
    obtain ⟨g, hg, hn⟩ := nextGo_none hn
    cases hq : nextGo sums loan ls [] with
    | none => rw [hq] at hs; cases hs
    | some nx => exact absurd ((nextGo_some hr hq).1 g hg) (by rw [h, h]; exact hn)
theorem amtOf_neg (a : Int) : ∀ ls : List Leg, (∀ g, g ∈ ls → g.amt ≠ -9223372036854775808 ∧ legIn g) → (amtOf a (ls.map negL)).getD 0 = -((amtOf a ls).getD 0)
  | [], _ => by simp [amtOf]
  | g :: r, h => by
    obtain ⟨h1, h2, h3⟩ := h g List.mem_cons_self
    have ih := amtOf_neg a r fun x hx => h x (List.mem_cons_of_mem _ hx)
    simp only [kLo, kHi, inK] at h3
    have e : (negL g).amt = -g.amt := by simp [negL]
    have e2 : (negL g).acct = g.acct := by simp [negL]
    simp only [List.map_cons, amtOf, e2]
    split
    · simp [e]
    · exact ih
section
variable {d d1 d2 d3 : Led} {k : Key} {ls : List Leg}
structure Nine (d : Led) (k : Key) (ls : List Leg) : Prop where
  inv : Inv d
  off : ∀ x, x ∈ d.lns → x.k.loan ≠ k.loan
  kin : keyIn k
  lin : ∀ g, g ∈ ls → legIn g
  right : rightB k ls = true
  turn : turnGo 0 ls = true
theorem Nine.post {e : ErrF} (hN : Nine d k ls) (h : postS d k ls e d1) : ((∃ p, e = .fault p k.loan 12) ∧ d1 = d) ∨
    (e = .none ∧ (nextGo d.sums k.loan ls []).isSome = true ∧ lk k d1.live = some (d.lns.length : Int) ∧ (∃ sv, d1.lns = d.lns ++ [⟨k, sv, 0, ls⟩]) ∧ ∀ p, getS d1.sums p = getS d.sums p + if p.loan = (if p.ctl = true then 0 else k.loan) then (amtOf p.acct ls).getD 0 else 0) := by
  unfold postS at h
  rw [if_neg (by rw [hN.right]; simp), live_off hN.inv (fun x hx e => hN.off x hx (by rw [e])), if_neg (by simp)] at h
  cases hn : nextGo d.sums k.loan ls [] with
  | none => rw [hn] at h; exact .inl h
  | some nx =>
    rw [hn] at h
    obtain ⟨h1, h2, h3, h4⟩ := h
    exact .inr ⟨h1, rfl, by rw [h2, lk_put_eq], h3, sums_more (rightB_rise hN.right) hn h4⟩
theorem Nine.twice {e : ErrF} (hN : Nine d k ls) (hl : (lk k d1.live).isSome = true) (h : postS d1 k ls e d2) : (∃ p, e = .fault p k.loan 10) ∧ d2 = d1 := by
  unfold postS at h
  rwa [if_neg (by rw [hN.right]; simp), if_pos hl] at h
theorem Nine.rev {e : ErrF} (hN : Nine d k ls) (hI1 : Inv d1) (hs : (nextGo d.sums k.loan ls []).isSome = true) (h1 : lk k d1.live = some (d.lns.length : Int)) (h2 : ∃ sv, d1.lns = d.lns ++ [⟨k, sv, 0, ls⟩]) (h3 : ∀ p, getS d1.sums p = getS d.sums p + if p.loan = (if p.ctl = true then 0 else k.loan) then (amtOf p.acct ls).getD 0 else 0) (h : revS d1 k e d2) :
    e = .none ∧ lk k d2.live = none ∧ d2.lns.length = d.lns.length + 2 ∧ (∀ x, x ∈ d2.lns → x.k = k ∨ x ∈ d.lns) ∧ ∀ p, getS d2.sums p = getS d.sums p := by
  obtain ⟨sv, h2⟩ := h2
  unfold revS at h
  rw [h1] at h
  simp only [h2, Int.toNat_natCast] at h
  obtain ⟨x, hx, h⟩ := h
  obtain rfl : x = ⟨k, sv, 0, ls⟩ := by
    rw [List.getElem?_append_right (Nat.le_refl _), Nat.sub_self] at hx
    exact (Option.some.inj hx).symm
  have hne := turnGo_ne hN.turn
  have hne2 : ∀ g, g ∈ ls → g.amt ≠ -9223372036854775808 ∧ legIn g := fun g hg => ⟨hne g hg, hN.lin g hg⟩
  have hr2 : rise (ls.map negL) := by
    have : rightB k (ls.map negL) = true := by rw [rightB_neg (fun g hg => ⟨hne g hg, (hN.lin g hg).2⟩) hN.right]; exact hN.turn
    exact rightB_rise this
  have hr := rightB_rise hN.right
  simp only at h
  rw [if_neg (by rw [hN.right]; simp), if_neg (by rw [hN.turn]; simp)] at h
  cases hn : nextGo d1.sums k.loan (ls.map negL) [] with
  | none =>
    exfalso
    obtain ⟨g, hg, hn⟩ := nextGo_none hn
    obtain ⟨g0, hg0, rfl⟩ := List.mem_map.1 hg
    refine hn ?_
    have hi : ∀ q : Pr, in64 (getS d.sums q) = true := fun q => by
      obtain ⟨a, b⟩ := hN.inv.in_ q
      simp only [kLo, kHi] at a b
      simp only [in64, Bool.and_eq_true, decide_eq_true_eq]
      exact ⟨a, b⟩
    have e2 : (negL g0).amt = -g0.amt := by simp [negL]
    have e3 : (negL g0).acct = g0.acct := by simp [negL]
    have e4 := amtOf_mem hr hg0
    rw [e2, e3, h3, h3]
    simp only [e4, Bool.false_eq_true, if_false, if_true, Option.getD_some]
    rw [Int.add_neg_cancel_right, Int.add_neg_cancel_right]
    exact ⟨hi _, hi _⟩
  | some nx =>
    rw [hn] at h
    obtain ⟨q1, q2, ⟨sv', q3⟩, q4⟩ := h
    refine ⟨q1, ?_, ?_, ?_, fun p => ?_⟩
    · rw [q2, lk_del hI1.nd, if_pos rfl]
    · rw [q3]; simp
    · intro x hx
      rw [q3] at hx
      simp only [List.append_assoc, List.mem_append, List.mem_cons, List.not_mem_nil, or_false] at hx
      rcases hx with hx | rfl | rfl
      · exact .inr hx
      · exact .inl rfl
      · exact .inl rfl
    · rw [sums_more hr2 hn q4, h3, amtOf_neg _ _ hne2]
      split <;> omega
theorem Nine.noMore {e : ErrF} (h1 : lk k d2.live = none) (h : revS d2 k e d3) : (∃ p, e = .fault p k.loan 3) ∧ d3 = d2 := by
  unfold revS at h
  rw [h1] at h
  exact h
theorem Nine.again {e : ErrF} (hN : Nine d k ls) (hs : (nextGo d.sums k.loan ls []).isSome = true) (h1 : lk k d2.live = none) (h2 : ∀ p, getS d2.sums p = getS d.sums p) (h : postS d2 k ls e d3) : e = .none := by
  unfold postS at h
  rw [if_neg (by rw [hN.right]; simp), h1, if_neg (by simp)] at h
  have := nextGo_isSome (fun p => (h2 p).symm) hs (rightB_rise hN.right)
  cases hn : nextGo d2.sums k.loan ls [] with
  | none => rw [hn] at this; cases this
  | some nx => rw [hn] at h; exact h.1
theorem Nine.empty (hN : Nine d k ls) (hI2 : Inv d2) (hk : ∀ l : Key, l.loan = k.loan → ∀ x, x ∈ d2.lns → x.k = l → l = k) (h1 : lk k d2.live = Option.none) : ∀ q, q ∈ d2.live → q.1.loan ≠ k.loan := fun q hq e => by
  have h2 := lk_of_mem hI2.nd (k := q.1) (v := q.2) hq
  have h3 := hI2.live q.1
  rw [h2] at h3
  split at h3
  · rename_i h0
    obtain ⟨x, hx, hxk, _⟩ := hI2.at_ q.1 h0
    have := hk q.1 e x (List.mem_of_getElem? hx) hxk
    rw [this, h1] at h2
    cases h2
  · cases h3
end
theorem made_pair {a b x y : Int} {out : List Leg} (h1 : a < b) (h2 : in64 x = true) (h3 : in64 y = true) (h : made [⟨a, x⟩, ⟨b, y⟩] out) : out = [⟨a, x⟩, ⟨b, y⟩] := by
  have e : sumGo [⟨a, x⟩, ⟨b, y⟩] [] = some [(a, x), (b, y)] := by
    simp [sumGo, lk, putL, h2, h3, show ¬ a = b by omega]
  unfold made at h
  rw [e] at h
  rcases perm_two h.1 with rfl | rfl
  · rfl
  · have := h.2
    simp [srt, pairL] at this; omega
@[reducible] def k9 (k : Key) : Key := ⟨9, 3, IntKind.u8.wrap (1 + k.kind.tmod 7), k.seq⟩
@[reducible] def l9 (v : Int) : List Leg := [⟨1, IntKind.i64.wrap v⟩, ⟨4, IntKind.i64.wrap (0 - IntKind.i64.wrap v)⟩]
theorem l9_eq {v : Int} (hv : inK .i32 v) : l9 v = [⟨1, v⟩, ⟨4, -v⟩] := by
  obtain ⟨h1, h2⟩ := hv
  simp only [kLo, kHi] at h1 h2
  have e : IntKind.i64.wrap v = v := w64 (by omega) (by omega)
  have e2 : IntKind.i64.wrap (0 - v) = -v := (w64 (by omega) (by omega)).trans (by omega)
  simp only [l9, e, e2]
theorem nine {d : Led} (hI : Inv d) (hlo : ∀ x, x ∈ d.lns → x.k.loan < 5) {k : Key} (hk : keyIn k) {v : Int} (hv : inK .i32 v) : Nine d (k9 k) [⟨1, v⟩, ⟨4, -v⟩] := by
  obtain ⟨_, _, ⟨q1, q2⟩, q3⟩ := hk
  simp only [kLo, kHi] at q1 q2
  obtain ⟨h1, h2⟩ := hv
  simp only [kLo, kHi] at h1 h2
  have e : k.kind.tmod 7 = k.kind % 7 := Int.tmod_eq_emod_of_nonneg q1
  have e3 : IntKind.u8.wrap (1 + k.kind % 7) = 1 + k.kind % 7 := wrap_id ⟨by show (0 : Int) ≤ _; omega, by show _ ≤ (255 : Int); omega⟩
  have kin : keyIn (k9 k) := ⟨(show inK .u32 9 from ⟨by decide, by decide⟩), (show inK .i32 3 from ⟨by decide, by decide⟩), by rw [show (k9 k).kind = 1 + k.kind % 7 by rw [← e3, ← e]]; exact ⟨by show (0 : Int) ≤ _; omega, by show _ ≤ (255 : Int); omega⟩, q3⟩
  have lin : ∀ g, g ∈ [(⟨1, v⟩ : Leg), ⟨4, -v⟩] → legIn g := fun g hg => by
    simp only [List.mem_cons, List.not_mem_nil, or_false] at hg
    rcases hg with rfl | rfl
    · exact ⟨⟨by show (0 : Int) ≤ 1; omega, by show (1 : Int) ≤ 255; omega⟩, by show (-9223372036854775808 : Int) ≤ v; omega, by show v ≤ (9223372036854775807 : Int); omega⟩
    · exact ⟨⟨by show (0 : Int) ≤ 4; omega, by show (4 : Int) ≤ 255; omega⟩, by show (-9223372036854775808 : Int) ≤ -v; omega, by show -v ≤ (9223372036854775807 : Int); omega⟩
  have i1 : in64 (0 + v) = true := by simp only [in64, Bool.and_eq_true, decide_eq_true_eq]; omega
  have i2 : in64 (0 + v + -v) = true := by simp only [in64, Bool.and_eq_true, decide_eq_true_eq]; omega
  refine ⟨hI, fun x hx => ?_, kin, lin, ?_, ?_⟩
  · have := hlo x hx
    show x.k.loan ≠ 9; omega
  · unfold rightB
    rw [show (k9 k).kind = 1 + k.kind % 7 by rw [← e3, ← e], noB_kind _ (by omega) (by omega)]
    have n1 : noB (accName 1) = false := by decide +kernel
    have n4 : noB (accName 4) = false := by decide +kernel
    have a1 : decide (1 + k.kind % 7 < 1) = false := by simp; omega
    have a2 : decide (7 < 1 + k.kind % 7) = false := by simp; omega
    rw [a1, a2]
    simp only [rightGo, i1, i2, n1, n4]
    simp [dayB]; omega
  · simp only [turnGo, Bool.and_eq_true, Bool.not_eq_true', decide_eq_false_iff_not, and_true]
    omega
end Go.Proofs.YtfemfomgmopibaaGreatDoor
