/- When something is due: so many months behind a day, the first open day from one on: the walks. -/
import Derived.Test.YtgbmambkgcjhfaaGreatDoorD4
set_option linter.unusedVariables false
namespace Go.Proofs.YtgbmambkgcjhfaaGreatDoor
open Go Go.Proofs Go.Wk
/-- So many months behind a date: the day, if there is one. -/
def plainV (y m d k : Int) : Option Int := if 119988 ≤ (y - 1) * 12 + m - 1 + k then none else some (numD (onY y m k) (onM y m k) (if d = lenM y m then lenM (onY y m k) (onM y m k) else min d (lenM (onY y m k) (onM y m k))))
def plainR (s k : Int) (r : Option Int) : Prop := ∃ y m d, Dat y m d ∧ numD y m d = s ∧ r = plainV y m d k
theorem plainR_one {s k : Int} {r r' : Option Int} (h : plainR s k r) (h' : plainR s k r') : r = r' := by
  obtain ⟨y, m, d, h1, h2, rfl⟩ := h
  obtain ⟨y', m', d', h3, h4, rfl⟩ := h'
  obtain ⟨rfl, rfl, rfl⟩ := num_inj h1 h3 (h2.trans h4.symm)
  rfl
@[reducible] def ovV : Option Int → Value
  | some n => .tuple #[.int .i32 n, .nilIface]
  | none => .tuple #[.int .i32 0, .iface 55 (.int .i64 12)]
theorem dat_on {y m d k : Int} (h : Dat y m d) (h1 : 0 ≤ (y - 1) * 12 + m - 1 + k) (h2 : (y - 1) * 12 + m - 1 + k < 119988) : Dat (onY y m k) (onM y m k) (min d (lenM (onY y m k) (onM y m k))) ∧ Dat (onY y m k) (onM y m k) (lenM (onY y m k) (onM y m k)) := by
  obtain ⟨o1, o2, o3, o4⟩ := on_ok h1 h2
  have := len_pos (y := onY y m k) (m := onM y m k)
  have := h.d1
  exact ⟨⟨o1, o2, o3, o4, by omega, by omega⟩, ⟨o1, o2, o3, o4, by omega, by omega⟩⟩
theorem plain (s k : Int) (hs : dayB s = true) (hk0 : 0 ≤ k) (hk : k ≤ 480) (w : World) (M I : BS) (H : Hp ⟨w, M, I⟩ [] [] w) :
    Ctr Tryz.prog 120 [.int .i32 s, .int .i64 k] w M I ovV (plainR s k) (fun _ => []) (fun _ => []) := by
  refine Exe.of_ev tok Tryz.call120 Tryz.func120 rfl rfl rfl ?_
  refine brd (fun h => by omega) (fun _ => ?_)
  refine brd (fun h => by omega) (fun _ => ?_)
  refine call_rule H (fun M I _ h => civil s hs _ M I h) fun a w1 ha H1 => ?_
  have hD := ha.1
  have hN := ha.2
  have hy1 := hD.y1
  have hm1 := hD.m1
  refine alloc_as tok H1 (civC 0 0 0) rfl rfl rfl fun c w2 H2 => ?_
  refine store_as tok H2 (civC a.1 a.2.1 a.2.2) rfl rfl rfl rfl rfl fun w3 H3 => ?_
  refine load_rule tok H3 (v := civV a.1 a.2.1 a.2.2) rfl ?_
  refine call_rule H3 (fun M I _ h => last a.1 a.2.1 a.2.2 hD _ M I h) fun _ w4 _ H4 => ?_
  refine load_rule tok H4 (v := civV a.1 a.2.1 a.2.2) rfl ?_
  by_cases ho : 119988 ≤ (a.1 - 1) * 12 + a.2.1 - 1 + k
  · refine call_rule H4 (fun M I _ h => monthsOver a.1 a.2.1 a.2.2 k hD (by omega) (by omega) (.inr ho) _ M I h) fun _ w5 _ H5 => ?_
    refine store_as tok H5 (civC 0 0 0) rfl rfl rfl rfl rfl fun w6 H6 => ?_
    exact Exists.intro none (And.intro rfl (And.intro ⟨a.1, a.2.1, a.2.2, hD, hN, by unfold plainV; rw [if_pos ho]⟩ (Hp.keep H6)))
  have hon := dat_on (k := k) hD (by omega) (by omega)
  refine call_rule H4 (fun M I _ h => months a.1 a.2.1 a.2.2 k hD (by omega) (by omega) (by omega) (by omega) _ M I h) fun _ w5 _ H5 => ?_
  refine store_as tok H5 (civC (onY a.1 a.2.1 k) (onM a.1 a.2.1 k) (min a.2.2 (lenM (onY a.1 a.2.1 k) (onM a.1 a.2.1 k)))) rfl rfl rfl rfl rfl fun w6 H6 => ?_
  have el : lenG (onY a.1 a.2.1 k) (onM a.1 a.2.1 k) = lenM (onY a.1 a.2.1 k) (onM a.1 a.2.1 k) := lenG_eq hon.1.y1 hon.1.y2 hon.1.m1 hon.1.m2
  refine br (fun q => ?_) (fun q => ?_)
  · have q : a.2.2 = lenM a.1 a.2.1 := by have q : (a.2.2 == lenM a.1 a.2.1) = true := q; simpa using q
    refine load_rule tok H6 (v := .int .i64 (onY a.1 a.2.1 k)) rfl ?_
    refine load_rule tok H6 (v := .int .i64 (onM a.1 a.2.1 k)) rfl ?_
    refine call_rule H6 (fun M I _ h => length (onY a.1 a.2.1 k) (onM a.1 a.2.1 k) _ M I h) fun _ w7 _ H7 => ?_
    refine store_as tok H7 (civC (onY a.1 a.2.1 k) (onM a.1 a.2.1 k) (lenG (onY a.1 a.2.1 k) (onM a.1 a.2.1 k))) rfl rfl rfl rfl rfl fun w8 H8 => ?_
    rw [el] at H8
    refine load_rule tok H8 (v := civV (onY a.1 a.2.1 k) (onM a.1 a.2.1 k) (lenM (onY a.1 a.2.1 k) (onM a.1 a.2.1 k))) rfl ?_
    refine call_rule H8 (fun M I _ h => numberD _ _ _ hon.2 _ M I h) fun _ w9 _ H9 => ?_
    exact Exists.intro (some (numD (onY a.1 a.2.1 k) (onM a.1 a.2.1 k) (lenM (onY a.1 a.2.1 k) (onM a.1 a.2.1 k)))) (And.intro rfl (And.intro ⟨a.1, a.2.1, a.2.2, hD, hN, by unfold plainV; rw [if_neg ho, if_pos q]⟩ (Hp.keep H9)))
  · have q : ¬ a.2.2 = lenM a.1 a.2.1 := by have q : (a.2.2 == lenM a.1 a.2.1) = false := q; simpa using q
    refine load_rule tok H6 (v := civV (onY a.1 a.2.1 k) (onM a.1 a.2.1 k) (min a.2.2 (lenM (onY a.1 a.2.1 k) (onM a.1 a.2.1 k)))) rfl ?_
    refine call_rule H6 (fun M I _ h => numberD _ _ _ hon.1 _ M I h) fun _ w9 _ H9 => ?_
    exact Exists.intro (some (numD (onY a.1 a.2.1 k) (onM a.1 a.2.1 k) (min a.2.2 (lenM (onY a.1 a.2.1 k) (onM a.1 a.2.1 k))))) (And.intro rfl (And.intro ⟨a.1, a.2.1, a.2.2, hD, hN, by unfold plainV; rw [if_neg ho, if_neg q]⟩ (Hp.keep H9)))
theorem plainV_day {y m d k n : Int} (h : Dat y m d) (hk : 0 ≤ k) (e : plainV y m d k = some n) : dayB n = true := by
  have := h.y1
  have := h.m1
  unfold plainV at e
  split at e
  · cases e
  · have hon := dat_on (k := k) h (by omega) (by omega)
    have e := Option.some.inj e
    subst e
    split
    · have := num_range hon.2; simp only [dayB, Bool.and_eq_true, decide_eq_true_eq]; omega
    · have := num_range hon.1; simp only [dayB, Bool.and_eq_true, decide_eq_true_eq]; omega
/-- The first open day from one on. -/
def nextR (hs : List Int) (d : Int) : Option Int → Prop
  | some n => d ≤ n ∧ openB hs n = true ∧ ∀ k, d ≤ k → k < n → openB hs k = false
  | none => ∀ k, d ≤ k → openB hs k = false
theorem nextR_one {hs : List Int} {d : Int} : ∀ {r r' : Option Int}, nextR hs d r → nextR hs d r' → r = r'
  | none, none, _, _ => rfl
  | none, some n, h, h' => by have := h n h'.1; rw [h'.2.1] at this; cases this
  | some n, none, h, h' => by have := h' n h.1; rw [h.2.1] at this; cases this
  | some n, some m, h, h' => by
    by_cases a : n < m
    · have := h'.2.2 n h.1 a; rw [h.2.1] at this; cases this
    · by_cases b : m < n
      · have := h.2.2 m h'.1 b; rw [h'.2.1] at this; cases this
      · rw [show n = m by omega]
theorem next (A : Option Addr) (n c : Nat) (hs : List Int) (d : Int) (hd : dayB d = true) (w : World) (M I : BS) (H : Hp ⟨w, M, I⟩ [] [Sl dayR (.slice A n c) hs] w) :
    Ctr Tryz.prog 121 [.slice A n c, .int .i32 d] w M I ovV (nextR hs d) (fun _ => []) (fun _ => []) := by
  have hd0 := hd
  simp only [dayB, Bool.and_eq_true, decide_eq_true_eq] at hd0
  refine Exe.of_ev tok Tryz.call121 Tryz.func121 rfl rfl rfl ?_
  refine call_rule H (fun M I _ h => hd ▸ dayRight d _ M I h) fun _ w1 _ H1 => ?_
  refine loop_rule tok (σ := Int) 261170 (fun k => [(1, .int .i32 k)]) (fun k w' => d ≤ k ∧ k ≤ 3652059 ∧ (∀ j, d ≤ j → j < k → openB hs j = false) ∧ Hp ⟨w, M, I⟩ [] [Sl dayR (.slice A n c) hs] w') (fun k => (3652059 - k).toNat) d rfl rfl ⟨rfl, trivial⟩ ⟨Int.le_refl _, by omega, (fun j a b => by omega), Hp.keep H1⟩ ?_
  intro k j w2 hW
  have h1 := hW.1
  have h2 := hW.2.1
  have h3 := hW.2.2.1
  have H2 := hW.2.2.2
  refine call_rule H2 (fun M I _ h => dayRight k _ M I h) fun _ w3 _ H3 => ?_
  refine br (fun q => ?_) (fun q => ?_)
  · have q : dayB k = true := q
    have qk := q
    simp only [dayB, Bool.and_eq_true, decide_eq_true_eq] at qk
    have ek : IntKind.i32.wrap (k + 1) = k + 1 := i32w (by omega) (by omega)
    refine call_rule H3 (fun M I _ h => open_ A n c hs k _ M I h) fun _ w4 _ H4 => ?_
    refine br (fun qo => ?_) (fun qo => ?_)
    · have qo : openB hs k = true := qo
      exact Exists.intro (some k) (And.intro rfl (And.intro ⟨h1, qo, h3⟩ (Hp.keep H4)))
    · have qo : openB hs k = false := qo
      refine Exists.intro (k + 1) (And.intro ⟨congrArg (Value.int .i32) ek, trivial⟩ (And.intro (by show (3652059 - (k + 1)).toNat < (3652059 - k).toNat; omega) ⟨by omega, by omega, fun j a b => ?_, Hp.keep H4⟩))
      by_cases e : j = k
      · rw [e]; exact qo
      · exact h3 j a (by omega)
  · have q : dayB k = false := q
    have hk : k = 3652059 := by
      by_cases e : k ≤ 3652058
      · exfalso
        have : dayB k = true := by simp only [dayB, Bool.and_eq_true, decide_eq_true_eq]; omega
        rw [this] at q; cases q
      · omega
    refine Exists.intro none (And.intro rfl (And.intro (fun j a => ?_) (Hp.keep H3)))
    by_cases e : j < k
    · exact h3 j a e
    · unfold openB
      have : dayB j = false := by simp [dayB]; omega
      rw [this]; rfl
/-- The first open day from so many months behind a day on. -/
def rollR (hs : List Int) (s k : Int) (r : Option Int) : Prop := ∃ p, plainR s k p ∧ (match p with
  | none => r = none
  | some n => nextR hs n r)
theorem rolled (A : Option Addr) (n c : Nat) (hs : List Int) (s k : Int) (hsd : dayB s = true) (hk0 : 0 ≤ k) (hk : k ≤ 480) (w : World) (M I : BS) (H : Hp ⟨w, M, I⟩ [] [Sl dayR (.slice A n c) hs] w) :
    Ctr Tryz.prog 66 [.slice A n c, .int .i32 s, .int .i64 k] w M I ovV (rollR hs s k) (fun _ => []) (fun _ => []) := by
  refine Exe.of_ev tok Tryz.call66 Tryz.func66 rfl rfl rfl ?_
  refine call_rule H (fun M I _ h => plain s k hsd hk0 hk _ M I h) fun a => ?_
  rcases a with _ | n1
  · intro w1 hp H1
    exact Exists.intro none (And.intro rfl (And.intro ⟨none, hp, rfl⟩ (Hp.keep H1)))
  · intro w1 hp H1
    have hdn : dayB n1 = true := by
      obtain ⟨y, m, d, h1, h2, h3⟩ := hp
      exact plainV_day h1 hk0 h3.symm
    refine call_rule H1 (fun M I _ h => next A n c hs n1 hdn _ M I h) fun r => ?_
    rcases r with _ | n2
    · intro w2 hr H2
      exact Exists.intro none (And.intro rfl (And.intro ⟨some n1, hp, hr⟩ (Hp.keep H2)))
    · intro w2 hr H2
      exact Exists.intro (some n2) (And.intro rfl (And.intro ⟨some n1, hp, hr⟩ (Hp.keep H2)))
end Go.Proofs.YtgbmambkgcjhfaaGreatDoor
