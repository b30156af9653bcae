/- Legs in whatever order: the plain law. -/
import Derived.Test.YtenpgmnknmnofaaT21
import Derived.Test.YtenpgmnknmnofaaT18
namespace Go.Proofs.Ytenpgmnknmnofaa
open Go Go.Proofs Go.Wk
def anyA (a : Int) : List Leg → Bool
  | [] => false
  | x :: r => decide (x.acct = a) || anyA a r
@[reducible] def small (ls : List Leg) : Prop := ∀ x, x ∈ ls → -999999 ≤ x.amt ∧ x.amt ≤ 999999
set_option maxRecDepth 100000 in
theorem acc_sum {k : Int} : ∀ (ls : List Leg) (s : Int) (b : Bool), small ls → -999999 * (1000 - ls.length : Int) ≤ s → s ≤ 999999 * (1000 - ls.length : Int) → ls.length ≤ 1000 → accGo k ls s b = some (s + sumA k ls, b || anyA k ls)
  | [], s, b, _, _, _, _ => by simp [accGo, sumA, anyA]
  | x :: r, s, b, h, h1, h2, h3 => by
    have hx := h x List.mem_cons_self
    have hr : small r := fun y hy => h y (List.mem_cons_of_mem _ hy)
    simp only [List.length_cons] at h1 h2 h3
    unfold accGo sumA anyA
    by_cases hk : x.acct = k
    · have hin : in64 (s + x.amt) = true := by
        unfold in64
        simp only [Bool.and_eq_true, decide_eq_true_eq]
        omega
      rw [if_pos hk, if_pos hin, acc_sum r _ _ hr (by omega) (by omega) (by omega), if_pos hk, decide_eq_true hk, Bool.true_or, Bool.or_true, Int.add_assoc]
    · rw [if_neg hk, acc_sum r _ _ hr (by omega) (by omega) (by omega), if_neg hk, decide_eq_false hk, Bool.false_or, Int.zero_add]
theorem any_sum {k : Int} : ∀ (ls : List Leg), anyA k ls = false → sumA k ls = 0
  | [], _ => rfl
  | x :: r, h => by
    unfold anyA at h
    simp only [Bool.or_eq_false_iff, decide_eq_false_iff_not] at h
    unfold sumA
    rw [if_neg h.1, any_sum r h.2, Int.zero_add]
theorem sumA_perm {k : Int} {a b : List Leg} (h : a.Perm b) : sumA k a = sumA k b := by
  induction h with
  | nil => rfl
  | cons x _ ih => simp only [sumA, ih]
  | swap x y l => simp only [sumA]; omega
  | trans _ _ h1 h2 => rw [h1, h2]
theorem anyA_perm {k : Int} {a b : List Leg} (h : a.Perm b) : anyA k a = anyA k b := by
  induction h with
  | nil => rfl
  | cons x _ ih => simp only [anyA, ih]
  | swap x y l => simp only [anyA]; rw [← Bool.or_assoc, ← Bool.or_assoc, Bool.or_comm (decide (y.acct = k))]
  | trans _ _ h1 h2 => rw [h1, h2]
theorem refL_congr {a b : List Leg} (h : ∀ k : Int, accGo k a 0 false = accGo k b 0 false) : ∀ d k, refL a d k = refL b d k
  | 0, k => rfl
  | d + 1, k => by
    unfold refL
    rw [h k, refL_congr h d (k + 1)]
theorem made_refL {ls out : List Leg} (hb : small ls) (hl : ls.length ≤ 12) (hr : ∀ x, x ∈ ls → inK .u8 x.acct) (h : made ls out) : out = refL ls 256 0 := by
  rw [made_ref hr h]
  unfold refMade
  rw [refGo_some 256 0 [] fun j => by rw [acc_sum ls 0 false hb (by omega) (by omega) (by omega)]; simp]
  rfl
theorem ofV_refL {ls : List Leg} {a : Nat} (hb : small ls) (hl : ls.length ≤ 12) : ∀ d k : Nat, ofV a (refL ls d k) = if k ≤ a ∧ a < k + d then sumA a ls else 0
  | 0, k => by
    rw [if_neg (by omega)]; rfl
  | d + 1, k => by
    unfold refL
    rw [acc_sum ls 0 false hb (by omega) (by omega) (by omega)]
    cases ha : anyA k ls with
    | true =>
      simp only [Bool.false_or]
      unfold ofV
      by_cases hk : k = a
      · subst hk
        rw [if_pos rfl, if_pos (by omega), Int.zero_add]
      · rw [if_neg (by simp only; omega), ofV_refL hb hl d (k + 1)]
        by_cases h2 : k + 1 ≤ a ∧ a < k + 1 + d
        · rw [if_pos h2, if_pos (by omega)]
        · rw [if_neg h2, if_neg (by omega)]
    | false =>
      simp only [Bool.false_or]
      rw [ofV_refL hb hl d (k + 1)]
      by_cases hk : k = a
      · subst hk
        rw [if_neg (by omega), if_pos (by omega), any_sum ls ha]
      · by_cases h2 : k + 1 ≤ a ∧ a < k + 1 + d
        · rw [if_pos h2, if_pos (by omega)]
        · rw [if_neg h2, if_neg (by omega)]
theorem legsLaw (ls : List Leg) (hb : small ls) (hl : ls.length ≤ 12) (hr : ∀ x, x ∈ ls → inK .u8 x.acct) : LegsOk ls where
  sum out h a ha := by rw [made_refL hb hl hr h, ofV_refL hb hl, if_pos (by omega)]
  len out h := by
    unfold made at h
    cases hs : sumGo ls [] with
    | none => rw [hs] at h; rw [h]; simp
    | some m => rw [hs] at h; have := sumGo_len hs; have := h.1.length_eq; simp at *; omega
  perm t a b hp ha hb2 := by
    have hbt : small t := fun x hx => hb x (hp.mem_iff.1 hx)
    have hlt : t.length ≤ 12 := by rw [hp.length_eq]; exact hl
    have e : a = b := by
      rw [made_refL hb hl hr ha, made_refL hbt hlt (fun x hx => hr x (hp.mem_iff.1 hx)) hb2]
      refine refL_congr (fun k => ?_) 256 0
      rw [acc_sum ls 0 false hb (by omega) (by omega) (by omega), acc_sum t 0 false hbt (by omega) (by omega) (by omega), sumA_perm hp, anyA_perm hp]
    rw [e]
    exact legsEq_self b
end Go.Proofs.Ytenpgmnknmnofaa
