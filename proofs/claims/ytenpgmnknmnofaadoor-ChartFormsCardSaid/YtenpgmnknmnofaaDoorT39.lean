/- Bytes are read as what was written; what is read is what stands there: the plain law. -/
import Derived.Test.YtenpgmnknmnofaaDoorT38
namespace Go.Proofs.YtenpgmnknmnofaaDoor
open Go Go.Proofs Go.Wk
theorem sizeB_eq : ∀ (k x : Nat), 256 ^ k ≤ x → x < 256 ^ (k + 1) → sizeB x = k + 1
  | 0, x, h1, h2 => by
    have h1 : 1 ≤ x := h1
    have h2 : x < 256 := by simpa using h2
    rw [sizeB_small h2, if_neg (by omega)]
  | k + 1, x, h1, h2 => by
    have h0 : 0 < 256 ^ (k + 1) := Nat.pow_pos (by decide)
    rw [sizeB_pos (by omega), sizeB_eq k (x / 256) (by rw [Nat.pow_succ] at h1; omega) (by rw [Nat.pow_succ] at h2; omega)]
    omega
theorem sizeB_low : ∀ (k x : Nat), sizeB x = k + 1 → 256 ^ k ≤ x
  | 0, x, h => by
    show 1 ≤ x
    rcases Nat.eq_zero_or_pos x with h0 | h0
    · subst h0; rw [sizeB_zero] at h; cases h
    · exact h0
  | k + 1, x, h => by
    have hx : x ≠ 0 := fun h0 => by subst h0; rw [sizeB_zero] at h; cases h
    rw [sizeB_pos hx] at h
    have := sizeB_low k (x / 256) (by omega)
    rw [Nat.pow_succ]
    omega
theorem valB_bigE (n : Nat) : ∀ (k a : Nat), valB (bigE n k) a = a * 256 ^ k + n % 256 ^ k
  | 0, a => by simp [bigE, valB, Nat.mod_one]
  | k + 1, a => by
    rw [bigE, valB, valB_bigE n k, Nat.mod_pow_succ, Nat.pow_succ]
    have e : (a * 256 + n / 256 ^ k % 256) * 256 ^ k = a * (256 ^ k * 256) + 256 ^ k * (n / 256 ^ k % 256) := by
      rw [Nat.add_mul, Nat.mul_assoc, Nat.mul_comm 256 (256 ^ k), Nat.mul_comm (n / 256 ^ k % 256)]
    omega
theorem bigE_valB : ∀ (k : Nat) (l : List Nat), l.length = k → byteIn l → bigE (valB l 0) l.length = l
  | 0, l, hk, _ => by
    have : l = [] := List.length_eq_zero_iff.1 hk
    subst this; rfl
  | k + 1, l, hk, h => by
    rcases List.eq_nil_or_concat l with rfl | ⟨q, b, rfl⟩
    · cases hk
    · rw [List.concat_eq_append] at hk h ⊢
      have hb := h b (by simp)
      rw [valB_snoc, List.length_append, List.length_singleton, bigE_snoc, show (valB q 0 * 256 + b) / 256 = valB q 0 by omega, show (valB q 0 * 256 + b) % 256 = b by omega, bigE_valB k q (by simp at hk; omega) fun x hx => h x (by simp [hx])]
theorem valB_low : ∀ (l : List Nat) (a k : Nat), 256 ^ k ≤ a → 256 ^ (k + l.length) ≤ valB l a
  | [], a, k, h => h
  | b :: r, a, k, h => by
    have := valB_low r (a * 256 + b) (k + 1) (by rw [Nat.pow_succ]; omega)
    rw [valB, List.length_cons, show k + (r.length + 1) = k + 1 + r.length by omega]
    exact this
theorem numR_numB {n m : Nat} {rest : List Nat} (hn : n < 18446744073709551616) (hm : m = 0 ∨ m = 128) : numR (numB n m ++ rest) false = ⟨n, decide (m = 128), rest, false⟩ := by
  have h8 := sizeB_le8 hn
  have hs : sizeOf_ (m + sizeB n) = sizeB n := by
    unfold sizeOf_
    rcases hm with rfl | rfl
    · rw [if_neg (by omega)]; omega
    · rw [if_pos (by omega)]; omega
  have hl := bigE_len n (sizeB n)
  have ht : (bigE n (sizeB n) ++ rest).take (sizeB n) = bigE n (sizeB n) := List.take_left' hl
  have hd : (bigE n (sizeB n) ++ rest).drop (sizeB n) = rest := List.drop_left' hl
  have hv : valB (bigE n (sizeB n)) 0 = n := by
    rw [valB_bigE, Nat.zero_mul, Nat.zero_add, Nat.mod_eq_of_lt (lt_sizeB n)]
  unfold numR
  simp only [numB, List.cons_append, hs]
  rw [if_neg, ht, hd, hv]
  · congr 1
    rcases hm with rfl | rfl
    · rw [decide_eq_false (by omega), decide_eq_false (by omega)]
    · rw [decide_eq_true (by omega), decide_eq_true rfl]
  · rintro (h | h | h | ⟨h1, h2⟩)
    · cases h
    · rw [List.length_append, hl] at h; omega
    · omega
    · obtain ⟨k, hk⟩ : ∃ k, sizeB n = k + 1 := ⟨sizeB n - 1, by omega⟩
      rw [hk, bigE, List.cons_append, List.head?_cons] at h2
      have h2 := Option.some.inj h2
      have hlow := sizeB_low k n hk
      have hhi := lt_sizeB n
      rw [hk, Nat.pow_succ] at hhi
      have hp : 0 < 256 ^ k := Nat.pow_pos (by decide)
      have h3 : 1 ≤ n / 256 ^ k := (Nat.le_div_iff_mul_le hp).2 (by omega)
      have h4 : n / 256 ^ k < 256 := (Nat.div_lt_iff_lt_mul hp).2 (by rw [Nat.mul_comm]; exact hhi)
      rw [Nat.mod_eq_of_lt h4] at h2
      omega
theorem numR_true (p : List Nat) : numR p true = badNR := by
  unfold numR
  cases p with
  | nil => rfl
  | cons h r => simp
theorem numR_eq {p : List Nat} {bad : Bool} (hp : byteIn p) (h : (numR p bad).bad = false) : bad = false ∧ p = numB (numR p bad).n (if (numR p bad).mark = true then 128 else 0) ++ (numR p bad).rest := by
  cases bad with
  | true => rw [numR_true] at h; cases h
  | false =>
    refine ⟨rfl, ?_⟩
    cases p with
    | nil => cases h
    | cons hd r =>
      by_cases hno : false = true ∨ r.length < sizeOf_ hd ∨ 8 < sizeOf_ hd ∨ (0 < sizeOf_ hd ∧ r.head? = some 0)
      · unfold numR at h
        simp only at h
        rw [if_pos hno] at h; cases h
      · have est : numR (hd :: r) false = ⟨valB (r.take (sizeOf_ hd)) 0, decide (128 ≤ hd), r.drop (sizeOf_ hd), false⟩ := by
          unfold numR
          simp only
          rw [if_neg hno]
        have hhd := hp hd List.mem_cons_self
        have h1 : sizeOf_ hd ≤ r.length := Nat.le_of_not_lt fun hh => hno (.inr (.inl hh))
        have h2 : ¬ (0 < sizeOf_ hd ∧ r.head? = some 0) := fun hh => hno (.inr (.inr (.inr hh)))
        rw [est]
        have hbt : byteIn (r.take (sizeOf_ hd)) := fun x hx => hp x (List.mem_cons_of_mem _ (List.mem_of_mem_take hx))
        have hlen : (r.take (sizeOf_ hd)).length = sizeOf_ hd := by rw [List.length_take]; omega
        have hbig := bigE_valB _ (r.take (sizeOf_ hd)) rfl hbt
        rw [hlen] at hbig
        have hsz : sizeB (valB (r.take (sizeOf_ hd)) 0) = sizeOf_ hd := by
          cases ht : r.take (sizeOf_ hd) with
          | nil =>
            rw [ht] at hlen
            rw [← hlen]; exact sizeB_zero
          | cons b q =>
            rw [ht] at hlen hbt
            have hb0 : b ≠ 0 := fun hb => h2 ⟨by simp at hlen; omega, by
              subst hb
              cases r with
              | nil => simp at ht
              | cons x r' =>
                cases hs : sizeOf_ hd with
                | zero => rw [hs] at ht; simp at ht
                | succ m =>
                  rw [hs, List.take_succ_cons] at ht
                  injection ht with e1 _
                  rw [e1]; rfl⟩
            have hlow := valB_low q b 0 (by show 1 ≤ b; omega)
            rw [Nat.zero_add] at hlow
            have hhi := valB_lt (b :: q) 0 0 hbt (by decide)
            rw [Nat.zero_add] at hhi
            have e0 : valB (b :: q) 0 = valB q b := by rw [valB, Nat.zero_mul, Nat.zero_add]
            rw [← hlen, List.length_cons]
            exact sizeB_eq q.length _ (by rw [e0]; exact hlow) hhi
        have hh : hd = (if decide (128 ≤ hd) = true then 128 else 0) + sizeOf_ hd := by
          unfold sizeOf_
          by_cases hm : 128 ≤ hd
          · rw [if_pos hm, decide_eq_true hm, if_pos rfl]; omega
          · rw [if_neg hm, decide_eq_false hm]; simp
        simp only [numB, hsz, hbig, List.cons_append, List.take_append_drop, ← hh]
theorem uintR_numB {n m : Nat} {rest : List Nat} (hn : n < 18446744073709551616) (h : n ≤ m) : uintR m ⟨numB n 0 ++ rest, false⟩ = (n, ⟨rest, false⟩) := by
  unfold uintR
  simp only
  rw [numR_numB hn (.inl rfl)]
  rw [if_neg (by simp; omega)]
theorem uintR_eq {m : Nat} {t : LS} (hp : byteIn t.p) (h : (uintR m t).2.bad = false) : t.bad = false ∧ t.p = numB (uintR m t).1 0 ++ (uintR m t).2.p := by
  unfold uintR at h ⊢
  split at h
  · cases h
  · rename_i hno
    rw [if_neg hno]
    obtain ⟨h1, h2⟩ := numR_eq hp h
    refine ⟨h1, ?_⟩
    have hm : (numR t.p t.bad).mark = false := by
      cases hh : (numR t.p t.bad).mark with
      | false => rfl
      | true => exact absurd (.inl hh) hno
    rw [hm] at h2
    exact h2
theorem intR_intB {v : Int} {rest : List Nat} (hv : inK .i64 v) : intR ⟨intB v ++ rest, false⟩ = (v, ⟨rest, false⟩) := by
  have hv : -9223372036854775808 ≤ v ∧ v ≤ 9223372036854775807 := hv
  unfold intR intB
  by_cases h : v < 0
  · rw [if_pos h]
    simp only
    rw [numR_numB (by omega) (.inr rfl)]
    rw [if_neg (by simp only; omega)]
    simp only [decide_true, if_true]
    rw [show -1 - (((-1 - v).toNat : Nat) : Int) = v by omega]
  · rw [if_neg h]
    simp only
    rw [numR_numB (by omega) (.inl rfl)]
    rw [if_neg (by simp only; omega)]
    simp only
    rw [if_neg (by decide), show ((v.toNat : Nat) : Int) = v by omega]
theorem intR_eq {t : LS} (hp : byteIn t.p) (h : (intR t).2.bad = false) : t.bad = false ∧ t.p = intB (intR t).1 ++ (intR t).2.p := by
  unfold intR at h ⊢
  split at h
  · cases h
  · rename_i hno
    rw [if_neg hno]
    obtain ⟨h1, h2⟩ := numR_eq hp h
    refine ⟨h1, ?_⟩
    simp only
    cases hm : (numR t.p t.bad).mark with
    | true =>
      rw [hm] at h2
      rw [if_pos rfl]
      unfold intB
      rw [if_pos (by omega), show (-1 - (-1 - ((numR t.p t.bad).n : Int))).toNat = (numR t.p t.bad).n by omega]
      exact h2
    | false =>
      rw [hm] at h2
      rw [if_neg (by simp)]
      unfold intB
      rw [if_neg (by omega), Int.toNat_natCast]
      exact h2
theorem legsR_legsB : ∀ {ls : List Leg} {rest : List Nat}, (∀ x, x ∈ ls → legIn x ∧ x.acct ≤ 9) → legsR ls.length ⟨legsB ls ++ rest, false⟩ = (ls, ⟨rest, false⟩)
  | [], rest, _ => rfl
  | x :: r, rest, h => by
    obtain ⟨⟨⟨a1, a2⟩, a3⟩, a4⟩ := h x List.mem_cons_self
    simp only [kLo, kHi] at a1 a2
    have e1 : uintR 9 ⟨legsB (x :: r) ++ rest, false⟩ = (x.acct.toNat, ⟨intB x.amt ++ (legsB r ++ rest), false⟩) := by
      rw [legsB, List.append_assoc, List.append_assoc]
      exact uintR_numB (by omega) (by omega)
    rw [List.length_cons, legsR, e1]
    simp only
    rw [intR_intB a3]
    simp only
    rw [legsR_legsB fun y hy => h y (List.mem_cons_of_mem _ hy)]
    obtain ⟨xa, xm⟩ := x
    simp only at a1 ⊢
    rw [show ((xa.toNat : Nat) : Int) = xa by omega]
theorem legsR_eq : ∀ {d : Nat} {t : LS}, byteIn t.p → (legsR d t).2.bad = false → t.bad = false ∧ t.p = legsB (legsR d t).1 ++ (legsR d t).2.p ∧ (legsR d t).1.length = d
  | 0, t, _, h => ⟨h, rfl, rfl⟩
  | d + 1, t, hp, h => by
    rw [legsR] at h ⊢
    have b1 : byteIn (uintR 9 t).2.p := uintR_in hp
    have b2 : byteIn (intR (uintR 9 t).2).2.p := intR_in b1
    obtain ⟨q1, q2, q3⟩ := legsR_eq b2 h
    obtain ⟨q4, q5⟩ := intR_eq b1 q1
    obtain ⟨q6, q7⟩ := uintR_eq hp q4
    refine ⟨q6, ?_, by simp only [List.length_cons, q3]⟩
    simp only [legsB, Int.toNat_natCast]
    rw [List.append_assoc, List.append_assoc, ← q2, ← q5]
    exact q7
end Go.Proofs.YtenpgmnknmnofaaDoor
