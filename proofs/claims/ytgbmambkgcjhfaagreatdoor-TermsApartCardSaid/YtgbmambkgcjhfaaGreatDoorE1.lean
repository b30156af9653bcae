/- What is due rises, month by month; all of it is the principal and more: the plain law. -/
import Derived.Test.YtgbmambkgcjhfaaGreatDoorD12
set_option linter.unusedVariables false
namespace Go.Proofs.YtgbmambkgcjhfaaGreatDoor
open Go Go.Proofs Go.Wk
theorem mon3_pay {parts b left pay : Int} (hr : rateB parts b = true) (h0 : 0 ≤ parts) (hl : 0 ≤ left) (hl2 : left ≤ 1000000000000) (hp : 0 ≤ pay) (all : Bool) : 0 ≤ (mon3 parts left pay all).1 + (mon3 parts left pay all).2.1 := by
  have := iM_bd hr h0 hl hl2
  unfold mon3
  split
  · show 0 ≤ iM parts left + (left + iM parts left - iM parts left); omega
  · show 0 ≤ iM parts left + (pay - iM parts left); omega
theorem rows_pay {kind parts b : Int} (hr : rateB parts b = true) (h0 : 0 ≤ parts) : ∀ (k : Nat) (left pay : Int), Jv kind parts k left pay → ∀ x, x ∈ rowsGo kind parts k left pay → 0 ≤ x.1 + x.2.1
  | 0, _, _, _, x, h => by cases h
  | k + 1, left, pay, hJ, x, h => by
    have hst := Jv.step hr h0 hJ
    rw [rowsGo] at h
    rcases List.mem_cons.1 h with rfl | h
    · exact mon3_pay hr h0 hJ.l0 hJ.l1 hst.1.1 _
    · exact rows_pay hr h0 k _ _ hst.2.2 x h
theorem rows_tot {kind parts b : Int} (hr : rateB parts b = true) (h0 : 0 ≤ parts) : ∀ (k : Nat) (left pay s : Int), Jv kind parts (k + 1) left pay → s + left ≤ tot s (rowsGo kind parts (k + 1) left pay)
  | 0, left, pay, s, hJ => by
    have hst := Jv.step hr h0 hJ
    have hb := mon3_bd (pay := (if kind = 2 then iM parts left else pay)) hr h0 hJ.l0 hJ.l1 (.inr hst.1.1) (0 == 0)
    have hi := iM_bd hr h0 hJ.l0 hJ.l1
    have e : (mon3 parts left (if kind = 2 then iM parts left else pay) ((0 : Nat) == 0)).2.2 = 0 := by
      unfold mon3; rw [if_pos (.inl rfl)]; show left + iM parts left - (left + iM parts left) = 0; omega
    rw [rowsGo, rowsGo, tot, tot]
    have hb2 : (mon3 parts left (if kind = 2 then iM parts left else pay) ((0 : Nat) == 0)).1 + (mon3 parts left (if kind = 2 then iM parts left else pay) ((0 : Nat) == 0)).2.1 + (mon3 parts left (if kind = 2 then iM parts left else pay) ((0 : Nat) == 0)).2.2 = left + iM parts left := hb.2
    omega
  | k + 1, left, pay, s, hJ => by
    have hst := Jv.step hr h0 hJ
    have hb := mon3_bd (pay := (if kind = 2 then iM parts left else pay)) hr h0 hJ.l0 hJ.l1 (.inr hst.1.1) (k + 1 == 0)
    have hi := iM_bd hr h0 hJ.l0 hJ.l1
    rw [rowsGo, tot]
    have ih := rows_tot hr h0 k _ _ (s + ((mon3 parts left (if kind = 2 then iM parts left else pay) (k + 1 == 0)).1 + (mon3 parts left (if kind = 2 then iM parts left else pay) (k + 1 == 0)).2.1)) hst.2.2
    omega
theorem sums_last : ∀ (l : List (Int × Int × Int)) (s : Int) (h : l ≠ []), (sumsGo s l)[l.length - 1]? = some (tot s l)
  | [], _, h => absurd rfl h
  | [x], s, _ => rfl
  | x :: y :: r, s, _ => by
    have := sums_last (y :: r) (s + (x.1 + x.2.1)) (by simp)
    rw [sumsGo, tot]
    simpa using this
theorem sums_next : ∀ (l : List (Int × Int × Int)) (s : Int) (i : Nat) {a b : Int}, (∀ x, x ∈ l → 0 ≤ x.1 + x.2.1) → (sumsGo s l)[i]? = some a → (sumsGo s l)[i + 1]? = some b → a ≤ b
  | [], _, _, _, _, _, h, _ => by simp [sumsGo] at h
  | [x], s, i, _, _, _, _, h => by simp [sumsGo] at h
  | x :: y :: r, s, 0, a, b, hp, h1, h2 => by
    simp only [sumsGo, List.getElem?_cons_zero, List.getElem?_cons_succ, Option.some.injEq] at h1 h2
    have := hp y (by simp)
    omega
  | x :: y :: r, s, i + 1, a, b, hp, h1, h2 => by
    rw [sumsGo, List.getElem?_cons_succ] at h1 h2
    exact sums_next (y :: r) _ i (fun z hz => hp z (List.mem_cons_of_mem _ hz)) h1 h2
theorem nextR_mono {hs : List Int} {a b n m : Int} (h : nextR hs a (some n)) (h' : nextR hs b (some m)) (hab : a ≤ b) : n ≤ m := by
  by_cases e : n ≤ m
  · exact e
  · have := h.2.2 m (by have := h'.1; omega) (by omega)
    rw [h'.2.1] at this; cases this
/-- A date of a later month is later. -/
theorem num_later {y m d y' m' d' : Int} (h : Dat y m d) (h' : Dat y' m' d') (hl : y * 12 + m < y' * 12 + m') : numD y m d < numD y' m' d' := by
  have a := num_year h
  have b := num_year h'
  have h1 := h.m1
  have h2 := h.m2
  have h3 := h'.m1
  have h4 := h'.m2
  by_cases ey : y < y'
  · have := beg_mono (y := y + 1) (z := y') (by have := h.y1; omega) (by omega)
    omega
  · have e : y = y' := by omega
    subst e
    have := off_mono (y := y) h1 (show m < m' by omega) (by omega)
    have := h.d2
    have := h'.d1
    unfold numD; omega
theorem on_at {y m k : Int} (h1 : 1 ≤ m) (h2 : m ≤ 12) : onY y m k * 12 + onM y m k = y * 12 + m + k := by unfold onY onM; omega
theorem plain_later {s k k' n n' : Int} (hk : 0 ≤ k) (hkk : k < k') (h : plainR s k (some n)) (h' : plainR s k' (some n')) : n < n' := by
  obtain ⟨y, m, d, hD, hN, e⟩ := h
  obtain ⟨y', m', d', hD', hN', e'⟩ := h'
  obtain ⟨rfl, rfl, rfl⟩ := num_inj hD hD' (hN.trans hN'.symm)
  have h1 := hD.y1
  have h2 := hD.m1
  have h3 := hD.m2
  unfold plainV at e e'
  split at e
  · cases e
  · split at e'
    · cases e'
    · have e := Option.some.inj e
      have e' := Option.some.inj e'
      have o := dat_on (k := k) hD (by omega) (by omega)
      have o' := dat_on (k := k') hD (by omega) (by omega)
      have a := on_at (y := y) (k := k) h2 h3
      have a' := on_at (y := y) (k := k') h2 h3
      rw [e, e']
      split
      · exact num_later o.2 o'.2 (by omega)
      · exact num_later o.1 o'.1 (by omega)
theorem plain_after {s k n : Int} (hk : 1 ≤ k) (h : plainR s k (some n)) : s < n := by
  obtain ⟨y, m, d, hD, hN, e⟩ := h
  have h1 := hD.y1
  have h2 := hD.m1
  have h3 := hD.m2
  unfold plainV at e
  split at e
  · cases e
  · have e := Option.some.inj e
    have o := dat_on (k := k) hD (by omega) (by omega)
    have a := on_at (y := y) (k := k) h2 h3
    rw [e, ← hN]
    split
    · exact num_later hD o.2 (by omega)
    · exact num_later hD o.1 (by omega)
theorem roll_after {hs : List Int} {s k d : Int} (hk : 1 ≤ k) (h : rollR hs s k (some d)) : s < d := by
  obtain ⟨p, hp, hr⟩ := h
  cases p with
  | none => cases hr
  | some n => have := plain_after hk hp; have := hr.1; omega
theorem roll_later {hs : List Int} {s k k' d d' : Int} (hk : 0 ≤ k) (hkk : k < k') (h : rollR hs s k (some d)) (h' : rollR hs s k' (some d')) : d ≤ d' := by
  obtain ⟨p, hp, hr⟩ := h
  obtain ⟨p', hp', hr'⟩ := h'
  cases p with
  | none => cases hr
  | some n =>
    cases p' with
    | none => cases hr'
    | some n' =>
      have := plain_later hk hkk hp hp'
      exact nextR_mono hr hr' (by omega)
theorem tm_lv {t : Tm} (hin : TmIn t) (ok : TmOk t) : lvRight t.prin t.parts t.basis (t.months.toNat : Int) = true := by
  have hmo := ok.months
  have hpr := ok.prin
  have hpa := ok.parts
  have em : ((t.months.toNat : Nat) : Int) = t.months := Int.toNat_of_nonneg (by omega)
  have hy : 0 < yearS t.basis := by
    unfold yearS
    rcases ok.basis with h | h
    · rw [if_pos h]; omega
    · rw [if_neg (by omega), if_pos h]; omega
  rw [em]
  simp only [lvRight, rateB, coinB, Bool.and_eq_true, decide_eq_true_eq]
  exact ⟨⟨hpa, hy⟩, hpr.1, ⟨by omega, hpr.2⟩, hmo⟩
/-- What TermsRise says. -/
theorem dues_rise {t : Tm} (hin : TmIn t) (ok : TmOk t) {hs : List Int} {ds : List (Int × Int)} (h : DuesR t hs t.months.toNat ds) :
    (∀ (k : Nat) (x : Int × Int), ds[k]? = some x → t.start < x.1) ∧ (∀ (k : Nat) (x y : Int × Int), ds[k]? = some x → ds[k + 1]? = some y → x.1 ≤ y.1 ∧ x.2 ≤ y.2) ∧ (∀ x : Int × Int, ds[t.months.toNat - 1]? = some x → t.prin ≤ x.2) := by
  have hlv := tm_lv hin ok
  have hJ := Jv.start (kind := t.kind) hlv hin.parts.1
  have hr : rateB t.parts t.basis = true := by simp only [lvRight, Bool.and_eq_true] at hlv; exact hlv.1
  have hmo := ok.months
  have lt : ∀ {k : Nat} {x : Int × Int}, ds[k]? = some x → k < t.months.toNat := fun hx => by
    have := (List.getElem?_eq_some_iff.1 hx).1
    rw [h.len] at this; exact this
  refine ⟨fun k x hx => ?_, fun k x y hx hy => ?_, fun x hx => ?_⟩
  · obtain ⟨d, s, h1, h2, h3⟩ := h.at_ k (lt hx)
    rw [hx] at h3
    obtain rfl := Option.some.inj h3
    exact roll_after (by omega) h1
  · obtain ⟨d, s, h1, h2, h3⟩ := h.at_ k (lt hx)
    obtain ⟨d', s', h4, h5, h6⟩ := h.at_ (k + 1) (lt hy)
    rw [hx] at h3
    rw [hy] at h6
    obtain rfl := Option.some.inj h3
    obtain rfl := Option.some.inj h6
    exact ⟨roll_later (by omega) (by omega) h1 h4, sums_next _ _ k (rows_pay hr hin.parts.1 _ _ _ hJ) h2 h5⟩
  · obtain ⟨d, s, h1, h2, h3⟩ := h.at_ (t.months.toNat - 1) (by omega)
    rw [hx] at h3
    obtain rfl := Option.some.inj h3
    have hlen := rowsGo_len t.kind t.parts t.months.toNat t.prin (payV t.prin t.parts t.months.toNat)
    have hl := sums_last (rowsGo t.kind t.parts t.months.toNat t.prin (payV t.prin t.parts t.months.toNat)) 0 (fun e => by rw [e] at hlen; simp at hlen; omega)
    rw [hlen] at hl
    have h2 : (sumsGo 0 (rowsGo t.kind t.parts t.months.toNat t.prin (payV t.prin t.parts t.months.toNat)))[t.months.toNat - 1]? = some s := h2
    rw [hl] at h2
    obtain rfl := Option.some.inj h2
    obtain ⟨m, hm⟩ : ∃ m, t.months.toNat = m + 1 := ⟨t.months.toNat - 1, by omega⟩
    rw [hm] at hJ ⊢
    have := rows_tot hr hin.parts.1 m _ _ 0 hJ
    show t.prin ≤ tot 0 _
    omega
end Go.Proofs.YtgbmambkgcjhfaaGreatDoor
