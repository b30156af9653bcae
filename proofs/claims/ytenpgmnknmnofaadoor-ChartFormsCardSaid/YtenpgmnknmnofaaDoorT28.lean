/- Bytes alike; bytes tell the entry: walk and plain law. -/
import Derived.Test.YtenpgmnknmnofaaDoorT27
namespace Go.Proofs.YtenpgmnknmnofaaDoor
open Go Go.Proofs Go.Wk
def byEq : List Nat → List Nat → Bool
  | [], [] => true
  | x :: r, y :: s => decide (x = y) && byEq r s
  | _, _ => false
theorem byEq_iff : ∀ {a b : List Nat}, byEq a b = true ↔ a = b
  | [], [] => by simp [byEq]
  | [], _ :: _ => by simp [byEq]
  | _ :: _, [] => by simp [byEq]
  | x :: r, y :: s => by
    rw [byEq, Bool.and_eq_true, decide_eq_true_eq, byEq_iff, List.cons.injEq]
theorem byEq_len {a b : List Nat} (h : a.length ≠ b.length) : byEq a b = false := by
  cases hb : byEq a b with
  | false => rfl
  | true => exact absurd (congrArg List.length (byEq_iff.1 hb)) h
theorem sameBytes (A B : Option Addr) (n c m d : Nat) (ls ms : List Nat) (w : World) (M I : BS) (H : Hp ⟨w, M, I⟩ [] [Sl byteR (.slice A n c) ls, Sl byteR (.slice B m d) ms] w) (hA : n = ls.length ∧ ls.length ≤ 9223372036854775807) (hB : m = ms.length) :
    Ctr Tryd.prog 15 [.slice A n c, .slice B m d] w M I (fun _ : Unit => .bool (byEq ls ms)) (fun _ => True) (fun _ => []) (fun _ => []) := by
  obtain ⟨rfl, hlen⟩ := hA
  subst hB
  refine Exe.of_ev tok Tryd.call15 Tryd.func15 rfl rfl rfl ?_
  refine br (fun q2 => ?_) (fun q2 => ?_)
  · have q2 : ((ls.length : Int) != (ms.length : Int)) = true := q2
    have q2 : ls.length ≠ ms.length := fun h => by rw [h] at q2; simp at q2
    refine Exists.intro () (And.intro (congrArg Value.bool ?_) (And.intro trivial (Hp.keep H)))
    rw [byEq_len q2]
  have q2 : ((ls.length : Int) != (ms.length : Int)) = false := q2
  have q2 : ls.length = ms.length := by
    have q2 : (ls.length : Int) = ms.length := by simpa using q2
    omega
  refine loop_rule tok (σ := Nat) 67100720 (fun i => [(13, .int .i64 i)])
    (fun i w' => i ≤ ls.length ∧ byEq ls ms = byEq (ls.drop i) (ms.drop i) ∧ Hp ⟨w, M, I⟩ [] [Sl byteR (.slice A ls.length c) ls, Sl byteR (.slice B ms.length d) ms] w') (fun i => ls.length - i) 0 rfl rfl ⟨rfl, trivial⟩
    ⟨Nat.zero_le _, rfl, H⟩ ?_
  rintro i j w3 ⟨hi, hg, H3⟩
  refine brd (fun h5 => ?_) (fun h5 => ?_)
  · have hil : i < ls.length := by omega
    obtain ⟨u, hu⟩ : ∃ u, ls[i]? = some u := ⟨_, List.getElem?_eq_getElem hil⟩
    obtain ⟨v, hv⟩ : ∃ v, ms[i]? = some v := ⟨_, List.getElem?_eq_getElem (by omega)⟩
    have hdu : ls.drop i = u :: ls.drop (i + 1) := by
      rw [List.drop_eq_getElem_cons hil]
      rw [List.getElem?_eq_getElem hil] at hu
      rw [Option.some.inj hu]
    have hdv : ms.drop i = v :: ms.drop (i + 1) := by
      rw [List.drop_eq_getElem_cons (by omega)]
      rw [List.getElem?_eq_getElem (by omega)] at hv
      rw [Option.some.inj hv]
    obtain ⟨b1, o1, rfl⟩ := H3.slAt (A := A) (n := ls.length) (c := c) (r := byteR) (by omega)
    obtain ⟨b2, o2, rfl⟩ := H3.slAt (A := B) (n := ms.length) (c := d) (r := byteR) (by omega)
    have i1 : (0 : Int) ≤ (i : Int) := by omega
    have i2 : (i : Int) < ls.length := h5
    have i3 : (i : Int) < ms.length := by omega
    refine draw_rule (A := []) tok tdr H3 [0, 1, 2, 3, 4, 5, 6, 7, 8] [0, 0, 3, 7, 0, 0, 48, 112, 255] rfl ?_
    refine pass_rule _ (fun w h => idx_own tok rfl rfl i1 i2 ⟨rfl, rfl⟩) ?_
    refine pass_rule _ (fun w h => sl_ld (n := ls.length) (c := c) (j := i) (f := 0) (r := byteR) tok h (.int .u8 u) hu rfl (fun _ _ => rfl) ⟨rfl, rfl⟩) ?_
    refine pass_rule _ (fun w h => idx_own tok rfl rfl i1 i3 ⟨rfl, rfl⟩) ?_
    refine pass_rule _ (fun w h => sl_ld (n := ms.length) (c := d) (j := i) (f := 0) (r := byteR) tok h (.int .u8 v) hv rfl (fun _ _ => rfl) ⟨rfl, rfl⟩) ?_
    refine done_rule fun w4 H4 => ?_
    refine br (fun q3 => ?_) (fun q3 => ?_)
    · have q3 : ((u : Int) != (v : Int)) = true := q3
      have q3 : ¬ u = v := fun h => by rw [h] at q3; simp at q3
      refine Exists.intro () (And.intro (congrArg Value.bool ?_) (And.intro trivial (Hp.keep H4)))
      rw [hg, hdu, hdv, byEq, decide_eq_false q3, Bool.false_and]
    · have q3 : ((u : Int) != (v : Int)) = false := q3
      have q3 : u = v := by
        have q3 : (u : Int) = v := by simpa using q3
        omega
      refine Exists.intro (i + 1) (And.intro ⟨?_, trivial⟩ (And.intro ?_ ⟨?_, ?_, H4⟩))
      · show Value.int .i64 (IntKind.i64.wrap (i + 1)) = _
        rw [w64 (by omega) (by omega)]; rfl
      · omega
      · omega
      · rw [hg, hdu, hdv, byEq, decide_eq_true q3, Bool.true_and]
  · refine Exists.intro () (And.intro (congrArg Value.bool ?_) (And.intro trivial (Hp.keep H3)))
    rw [hg, List.drop_eq_nil_of_le (by omega), List.drop_eq_nil_of_le (by omega)]; rfl
/-! ### Bytes tell the number -/
theorem lt_sizeB (n : Nat) : n < 256 ^ sizeB n := by
  induction n using Nat.strongRecOn with
  | ind n ih =>
    by_cases h : n = 0
    · subst h; rw [sizeB_zero]; decide
    · rw [sizeB_pos h, Nat.add_comm, Nat.pow_succ]
      have := ih (n / 256) (by omega)
      omega
theorem bigE_inj {n m : Nat} : ∀ k, bigE n k = bigE m k → n % 256 ^ k = m % 256 ^ k
  | 0, _ => by simp [Nat.mod_one]
  | k + 1, h => by
    simp only [bigE, List.cons.injEq] at h
    rw [Nat.mod_pow_succ, Nat.mod_pow_succ, h.1, bigE_inj k h.2]
theorem numB_inj {n m a b : Nat} {r s : List Nat} (hn : n < 18446744073709551616) (hm : m < 18446744073709551616) (ha : a = 0 ∨ a = 128) (hb : b = 0 ∨ b = 128) (h : numB n a ++ r = numB m b ++ s) : n = m ∧ a = b ∧ r = s := by
  have h1 := sizeB_le8 hn
  have h2 := sizeB_le8 hm
  simp only [numB, List.cons_append, List.cons.injEq] at h
  obtain ⟨h3, h4⟩ := h
  have h5 : sizeB n = sizeB m := by omega
  obtain ⟨h6, h7⟩ := List.append_inj h4 (by rw [bigE_len, bigE_len, h5])
  rw [← h5] at h6
  have h8 := bigE_inj _ h6
  rw [Nat.mod_eq_of_lt (lt_sizeB n), Nat.mod_eq_of_lt (by rw [h5]; exact lt_sizeB m)] at h8
  exact ⟨h8, by omega, h7⟩
theorem intB_inj {v u : Int} {r s : List Nat} (hv : inK .i64 v) (hu : inK .i64 u) (h : intB v ++ r = intB u ++ s) : v = u ∧ r = s := by
  have hv : -9223372036854775808 ≤ v ∧ v ≤ 9223372036854775807 := hv
  have hu : -9223372036854775808 ≤ u ∧ u ≤ 9223372036854775807 := hu
  unfold intB at h
  split at h <;> split at h
  all_goals
    obtain ⟨h1, h2, h3⟩ := numB_inj (by omega) (by omega) (by simp) (by simp) h
    exact ⟨by omega, h3⟩
theorem legsB_inj : ∀ {a b : List Leg}, a.length = b.length → (∀ x, x ∈ a → legIn x) → (∀ x, x ∈ b → legIn x) → legsB a = legsB b → a = b
  | [], [], _, _, _, _ => rfl
  | [], _ :: _, h, _, _, _ => by simp at h
  | _ :: _, [], h, _, _, _ => by simp at h
  | x :: r, y :: s, hl, ha, hb, h => by
    obtain ⟨⟨a1, a2⟩, a3⟩ := ha x List.mem_cons_self
    obtain ⟨⟨b1, b2⟩, b3⟩ := hb y List.mem_cons_self
    simp only [kLo, kHi] at a1 a2 b1 b2
    simp only [legsB, List.append_assoc] at h
    obtain ⟨h1, _, h2⟩ := numB_inj (by omega) (by omega) (by simp) (by simp) h
    obtain ⟨h3, h4⟩ := intB_inj a3 b3 h2
    have := legsB_inj (by simpa using hl) (fun z hz => ha z (List.mem_cons_of_mem _ hz)) (fun z hz => hb z (List.mem_cons_of_mem _ hz)) h4
    rw [this]
    obtain ⟨xa, xm⟩ := x
    obtain ⟨ya, ym⟩ := y
    simp only at h1 h3 a1 b1
    rw [show xa = ya by omega, h3]
theorem entBytes_inj {k l : Key} {a b : List Leg} (hk : keyIn k) (hl : keyIn l) (ha : ∀ x, x ∈ a → legIn x) (hb : ∀ x, x ∈ b → legIn x) (hra : rightB k a = true) (hrb : rightB l b = true) (h : entBytes k a = entBytes l b) : k = l ∧ a = b := by
  obtain ⟨⟨k1, k2⟩, ⟨k3, k4⟩, ⟨k5, k6⟩, ⟨k7, k8⟩⟩ := hk
  obtain ⟨⟨l1, l2⟩, ⟨l3, l4⟩, ⟨l5, l6⟩, ⟨l7, l8⟩⟩ := hl
  simp only [kLo, kHi] at k1 k2 k3 k4 k5 k6 k7 k8 l1 l2 l3 l4 l5 l6 l7 l8
  obtain ⟨q1, q2, _⟩ := right_day hra
  obtain ⟨p1, p2, _⟩ := right_day hrb
  simp only [entBytes, List.append_assoc] at h
  obtain ⟨h1, _, h⟩ := numB_inj (by omega) (by omega) (by simp) (by simp) h
  obtain ⟨h2, _, h⟩ := numB_inj (by omega) (by omega) (by simp) (by simp) h
  obtain ⟨h3, _, h⟩ := numB_inj (by omega) (by omega) (by simp) (by simp) h
  obtain ⟨h4, _, h⟩ := numB_inj (by omega) (by omega) (by simp) (by simp) h
  obtain ⟨h5, _, h⟩ := numB_inj (by omega) (by omega) (by simp) (by simp) h
  refine ⟨?_, legsB_inj h5 ha hb h⟩
  obtain ⟨x1, x2, x3, x4⟩ := k
  obtain ⟨y1, y2, y3, y4⟩ := l
  simp only at *
  rw [show x1 = y1 by omega, show x2 = y2 by omega, show x3 = y3 by omega, show x4 = y4 by omega]
theorem legsEq_iff : ∀ {a b : List Leg}, legsEq a b = true ↔ a = b
  | [], [] => by simp [legsEq]
  | [], _ :: _ => by simp [legsEq]
  | _ :: _, [] => by simp [legsEq]
  | x :: r, y :: s => by
    rw [legsEq, Bool.and_eq_true, legsEq_iff, List.cons.injEq]
    obtain ⟨xa, xm⟩ := x
    obtain ⟨ya, ym⟩ := y
    simp [legEq]
theorem eqK_iff {k l : Key} : eqK k l = true ↔ k = l := by
  obtain ⟨x1, x2, x3, x4⟩ := k
  obtain ⟨y1, y2, y3, y4⟩ := l
  simp [eqK]
theorem same_bytes {k l : Key} {a b : List Leg} (hk : keyIn k) (hl : keyIn l) (ha : ∀ x, x ∈ a → legIn x) (hb : ∀ x, x ∈ b → legIn x) (hra : rightB k a = true) (hrb : rightB l b = true) : sameB k l a b = byEq (entBytes k a) (entBytes l b) := by
  rw [Bool.eq_iff_iff, byEq_iff, sameB, Bool.and_eq_true, eqK_iff, legsEq_iff]
  constructor
  · rintro ⟨rfl, rfl⟩; rfl
  · exact entBytes_inj hk hl ha hb hra hrb
/-- The sum as the machine makes it. -/
def sumW (s : Int) : List Leg → Int
  | [] => s
  | x :: r => sumW (IntKind.i64.wrap (s + x.amt)) r
theorem right_sum : ∀ {ls : List Leg} {s last : Int}, rightGo s last ls = true → sumW s ls = 0
  | [], s, last, h => by simpa [rightGo, sumW] using h
  | x :: r, s, last, h => by
    unfold rightGo at h
    cases h1 : in64 (s + x.amt) <;> rw [h1] at h <;> simp only [cond_true, cond_false] at h
    · cases h
    · cases h2 : decide (x.acct ≤ last) <;> rw [h2] at h <;> simp only [cond_true, cond_false] at h
      · cases h3 : noB (accName x.acct) <;> rw [h3] at h <;> simp only [cond_true, cond_false] at h
        · simp only [in64, Bool.and_eq_true, decide_eq_true_eq] at h1
          rw [sumW, w64 h1.1 h1.2]
          exact right_sum h
        · cases h
      · cases h
theorem rightB_sum {k : Key} {ls : List Leg} (h : rightB k ls = true) : sumW 0 ls = 0 := by
  unfold rightB at h
  cases h1 : noB (kindName k.kind) <;> rw [h1] at h <;> simp only [cond_true, cond_false] at h
  · cases h2 : dayB k.day <;> rw [h2] at h <;> simp only [Bool.not_true, Bool.not_false, cond_true, cond_false] at h
    · cases h
    · cases h3 : ((ls.length : Int) == 0) <;> rw [h3] at h <;> simp only [cond_true, cond_false] at h
      · cases h4 : decide (8 < (ls.length : Int)) <;> rw [h4] at h <;> simp only [cond_true, cond_false] at h
        · exact right_sum h
        · cases h
      · cases h
  · cases h
end Go.Proofs.YtenpgmnknmnofaaDoor
