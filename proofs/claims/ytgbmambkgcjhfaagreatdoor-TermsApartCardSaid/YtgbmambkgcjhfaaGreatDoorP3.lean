/- Numerals and words, as lists of bytes: no program. -/
import Derived.Test.YtgbmambkgcjhfaaGreatDoorK1
import Derived.Lib.ParseIntB
import Derived.Lib.SplitLaws
import Derived.Lib.Join
import Derived.Lib.ItoaMem
set_option linter.unusedVariables false
namespace Go.Pl
open Go Go.Lib
theorem dig_nat {x : Nat} (h : x < 10) : (UInt8.ofNat (48 + x)).toNat = 48 + x := by simp [UInt8.toNat_ofNat]; omega
theorem parseM_step (M acc d : Nat) (hd : d < 10) (hM : M ≤ 18446744073709551615) (h : acc * 10 + d ≤ M) (rest : List UInt8) : parseUintM M acc (UInt8.ofNat (48 + d) :: rest) = parseUintM M (acc * 10 + d) rest := by
  rw [parseUintM, dig_nat hd, if_pos (by omega), if_neg (by omega), if_neg (by omega), show 48 + d - 48 = d by omega]
theorem parseM_dec (M : Nat) (hM : M ≤ 18446744073709551615) (u : Nat) : ∀ (rest : List UInt8) (acc : Nat), acc * 10 ^ nDigits u + u ≤ M → parseUintM M acc (decDigits u ++ rest) = parseUintM M (acc * 10 ^ nDigits u + u) rest := by
  induction u using Nat.strongRecOn with
  | _ u ih =>
    intro rest acc h
    by_cases hu : u < 10
    · rw [nDigits_small hu, Nat.pow_one] at h ⊢
      rw [decDigits_one hu]
      exact parseM_step M acc u hu hM h rest
    · have e : decDigits u = decDigits (u / 10) ++ [UInt8.ofNat (48 + u % 10)] := by rw [decDigits, dif_neg hu]
      rw [nDigits_big hu, Nat.pow_succ, ← Nat.mul_assoc] at h ⊢
      rw [e, List.append_assoc, ih (u / 10) (by omega) _ acc (by omega)]
      have h2 := parseM_step M (acc * 10 ^ nDigits (u / 10) + u / 10) (u % 10) (by omega) hM (by omega) rest
      rw [show [UInt8.ofNat (48 + u % 10)] ++ rest = UInt8.ofNat (48 + u % 10) :: rest from rfl, h2]
      congr 1
      omega
theorem parseM_zeros (M : Nat) (hM : M ≤ 18446744073709551615) (rest : List UInt8) : ∀ k : Nat, parseUintM M 0 (List.replicate k 48 ++ rest) = parseUintM M 0 rest
  | 0 => by simp
  | k + 1 => by
    rw [List.replicate_succ, List.cons_append]
    have h := parseM_step M 0 0 (by decide) hM (by omega) (List.replicate k 48 ++ rest)
    rw [show (UInt8.ofNat (48 + 0)) = 48 from rfl] at h
    rw [h]
    exact parseM_zeros M hM rest k
theorem parse10_M : ∀ (l : List UInt8) (acc : Nat), parseUint10 acc l = parseUintM 18446744073709551615 acc l
  | [], acc => rfl
  | c :: r, acc => by
    rw [parseUint10, parseUintM]
    split
    · split
      · rfl
      · by_cases h : 18446744073709551616 ≤ acc * 10 + (c.toNat - 48)
        · rw [if_pos h, if_pos (by omega)]
        · rw [if_neg h, if_neg (by omega)]
          exact parse10_M r _
    · rfl
/-- Bytes that are digits. -/
def dgB (c : UInt8) : Bool := decide (48 ≤ c.toNat) && decide (c.toNat ≤ 57)
theorem dgB_of {x : Nat} (h : x < 10) : dgB (UInt8.ofNat (48 + x)) = true := by unfold dgB; rw [dig_nat h]; simp; omega
theorem dec_dig (u : Nat) : ∀ c, c ∈ decDigits u → dgB c = true := by
  induction u using Nat.strongRecOn with
  | _ u ih =>
    intro c hc
    by_cases hu : u < 10
    · rw [decDigits_one hu, List.mem_singleton] at hc
      rw [hc]; exact dgB_of hu
    · rw [decDigits, dif_neg hu] at hc
      rcases List.mem_append.1 hc with h | h
      · exact ih (u / 10) (by omega) c h
      · rw [List.mem_singleton.1 h]; exact dgB_of (by omega)
theorem dec_ne (u : Nat) : decDigits u ≠ [] := fun e => by
  have := decDigits_length u
  have h1 := nDigits_pos u
  rw [e] at this
  simp at this; omega
theorem dgB_nat {c : UInt8} (h : dgB c = true) : 48 ≤ c.toNat ∧ c.toNat ≤ 57 := by unfold dgB at h; simpa using h
theorem not_mem_of_dig {l : List UInt8} (h : ∀ c, c ∈ l → dgB c = true) {x : UInt8} (hx : dgB x = false) : x ∉ l := fun hm => by rw [h x hm] at hx; cases hx
/-- The first digit of a number of more than one isn't 0. -/
theorem dec_head (u : Nat) : ∀ c r, decDigits u = c :: r → r ≠ [] → c ≠ 48 := by
  induction u using Nat.strongRecOn with
  | _ u ih =>
    intro c r hc hr
    by_cases hu : u < 10
    · rw [decDigits_one hu] at hc
      injection hc with _ h2
      exact absurd h2.symm hr
    · rw [decDigits, dif_neg hu] at hc
      cases h : decDigits (u / 10) with
      | nil => exact absurd h (dec_ne _)
      | cons c2 r2 =>
        rw [h, List.cons_append] at hc
        injection hc with h1 h2
        subst h1
        by_cases h3 : r2 = []
        · have hlt : u / 10 < 10 := by
            have hl := decDigits_length (u / 10)
            rw [h, h3] at hl
            by_cases hq : u / 10 < 10
            · exact hq
            · rw [nDigits_big hq] at hl
              have := nDigits_pos (u / 10 / 10)
              simp at hl; omega
          rw [decDigits_one hlt] at h
          injection h with h4 _
          intro e
          have : c2.toNat = 48 := by rw [e]; rfl
          rw [← h4, dig_nat hlt] at this
          omega
        · exact ih (u / 10) (by omega) c2 r2 h h3
/-- Digits ahead: neither a sign. -/
theorem parseIntB_pos {l : List UInt8} {u : Nat} (hd : ∀ c, c ∈ l → dgB c = true) (hne : l ≠ []) (h : parseUintM 18446744073709551615 0 l = .ok u) (hu : u < 9223372036854775808) : parseIntB 64 l = .ok (u : Int) := by
  cases l with
  | nil => exact absurd rfl hne
  | cons c r =>
    have hc := dgB_nat (hd c List.mem_cons_self)
    have hn : ¬ (c.toNat = 43 ∨ c.toNat = 45) := by omega
    have h45 : ¬ c.toNat = 45 := by omega
    have e : parseUintB 64 (c :: r) = .ok u := by
      unfold parseUintB
      rw [if_neg (by simp)]
      exact h
    unfold parseIntB
    simp only [if_neg hn]
    rw [e]
    simp only
    rw [if_neg (fun hh => by have h2 := hh.2; omega), if_neg (fun hh => h45 hh.1), if_neg h45]
theorem atoi_pos {l : List UInt8} {u : Nat} (hd : ∀ c, c ∈ l → dgB c = true) (hne : l ≠ []) (h : parseUintM 18446744073709551615 0 l = .ok u) (hu : u < 9223372036854775808) : atoiAll l = .ok (u : Int) := by
  cases l with
  | nil => exact absurd rfl hne
  | cons c r =>
    have hc := dgB_nat (hd c List.mem_cons_self)
    have hn : ¬ (c.toNat = 43 ∨ c.toNat = 45) := by omega
    have h45 : ¬ c.toNat = 45 := by omega
    have e : parseMag (c :: r) = .ok u := by
      unfold parseMag
      rw [if_neg (by simp), parse10_M]
      exact h
    unfold atoiAll
    simp only [if_neg hn]
    rw [e]
    simp only
    rw [if_neg (fun hh => by have h2 := hh.2; omega), if_neg (fun hh => h45 hh.1), if_neg h45]
theorem uintB_pos {B : Nat} {l : List UInt8} {u : Nat} (hne : l ≠ []) (h : parseUintM (2 ^ B - 1) 0 l = .ok u) : parseUintB B l = .ok u := by unfold parseUintB; rw [if_neg hne]; exact h
theorem parseM_num (M : Nat) (hM : M ≤ 18446744073709551615) (u : Nat) (h : u ≤ M) : parseUintM M 0 (decDigits u) = .ok u := by
  have := parseM_dec M hM u [] 0 (by omega)
  rw [List.append_nil, Nat.zero_mul, Nat.zero_add] at this
  rw [this]; rfl
/-- A numeral, with noughts ahead or none, is read again. -/
theorem atoi_pad (k u : Nat) (hu : u < 9223372036854775808) : atoiAll (List.replicate k 48 ++ decDigits u) = .ok (u : Int) := by
  refine atoi_pos (fun c hc => ?_) (fun e => dec_ne u (List.append_eq_nil_iff.1 e).2) ?_ hu
  · rcases List.mem_append.1 hc with h | h
    · rw [(List.mem_replicate.1 h).2]; rfl
    · exact dec_dig u c h
  · rw [parseM_zeros _ (by omega)]
    exact parseM_num _ (by omega) u (by omega)
theorem atoi_num (u : Nat) (hu : u < 9223372036854775808) : atoiAll (decDigits u) = .ok (u : Int) := by
  have := atoi_pad 0 u hu
  rwa [List.replicate_zero, List.nil_append] at this
theorem u32_num (u : Nat) (hu : u < 4294967296) : parseUintB 32 (decDigits u) = .ok u := uintB_pos (dec_ne u) (parseM_num _ (by decide) u (by show u ≤ 4294967295; omega))
/-! Words. -/
theorem index_one {c : UInt8} : ∀ {w rest : List UInt8}, c ∉ w → index (w ++ c :: rest) [c] = w.length
  | [], rest, _ => by simp [index, List.isPrefixOf]
  | b :: w, rest, h => by
    have h1 : b ≠ c := fun e => h (e ▸ List.mem_cons_self)
    have ih := index_one (w := w) (rest := rest) (fun hm => h (List.mem_cons_of_mem _ hm))
    show index (b :: (w ++ c :: rest)) [c] = _
    have hp : ([c] : List UInt8).isPrefixOf (b :: (w ++ c :: rest)) = false := by simp [List.isPrefixOf, Ne.symm h1]
    have hix : index (b :: (w ++ c :: rest)) [c] = if index (w ++ c :: rest) [c] == -1 then -1 else index (w ++ c :: rest) [c] + 1 := by rw [index, hp]; simp
    rw [hix, ih, if_neg (fun e => by have := beq_iff_eq.1 e; omega)]
    simp
theorem index_no {c : UInt8} : ∀ {w : List UInt8}, c ∉ w → index w [c] = -1
  | [], _ => by simp [index]
  | b :: w, h => by
    have h1 : b ≠ c := fun e => h (e ▸ List.mem_cons_self)
    have ih := index_no (w := w) (fun hm => h (List.mem_cons_of_mem _ hm))
    have hp : ([c] : List UInt8).isPrefixOf (b :: w) = false := by simp [List.isPrefixOf, Ne.symm h1]
    have hix : index (b :: w) [c] = if index w [c] == -1 then -1 else index w [c] + 1 := by rw [index, hp]; simp
    rw [hix, ih]; rfl
theorem cut_one {c : UInt8} {w rest : List UInt8} (h : c ∉ w) : cut (w ++ c :: rest) [c] = (w, rest, true) := by
  unfold cut
  rw [index_one h, if_pos (by omega)]
  have e : ((w.length : Nat) : Int).toNat = w.length := Int.toNat_natCast _
  rw [e, List.take_left' rfl, List.drop_append]
  simp
theorem join_cons (w v : List UInt8) (ws : List (List UInt8)) (c : UInt8) : join (w :: v :: ws) [c] = w ++ c :: join (v :: ws) [c] := by
  unfold join
  simp [List.intercalate]
theorem join_one (w c : List UInt8) : join [w] c = w := by unfold join; simp [List.intercalate]
theorem count_join {c : UInt8} : ∀ (w : List UInt8) (ws : List (List UInt8)), (∀ x, x ∈ w :: ws → c ∉ x) → count (join (w :: ws) [c]) [c] = ws.length
  | w, [], h => by
    rw [join_one, count_one]
    exact List.count_eq_zero.2 (h w List.mem_cons_self)
  | w, v :: ws, h => by
    have ih := count_join v ws (fun x hx => h x (List.mem_cons_of_mem _ hx))
    rw [count_one] at ih ⊢
    rw [join_cons, List.count_append, List.count_cons_self, ih, List.count_eq_zero.2 (h w List.mem_cons_self)]
    simp
theorem splitK_join {c : UInt8} : ∀ (w : List UInt8) (ws : List (List UInt8)), (∀ x, x ∈ w :: ws → c ∉ x) → splitK [c] 0 ws.length (join (w :: ws) [c]) = w :: ws
  | w, [], h => by rw [join_one]; rfl
  | w, v :: ws, h => by
    have hi := index_one (rest := join (v :: ws) [c]) (h w List.mem_cons_self)
    have ih := splitK_join v ws (fun x hx => h x (List.mem_cons_of_mem _ hx))
    rw [join_cons]
    show splitK [c] 0 (ws.length + 1) (w ++ c :: join (v :: ws) [c]) = _
    rw [splitK, hi, if_neg (fun e => by have := beq_iff_eq.1 e; omega)]
    have e : ((w.length : Nat) : Int).toNat = w.length := Int.toNat_natCast _
    rw [e, Nat.add_zero, List.take_left' rfl, List.drop_append]
    have e2 : (w.length + [c].length) - w.length = 1 := by simp
    rw [List.drop_of_length_le (l := w) (by simp), e2]
    simp only [List.drop_succ_cons, List.drop_zero, List.nil_append]
    rw [ih]
theorem split_join {c : UInt8} (w : List UInt8) (ws : List (List UInt8)) (h : ∀ x, x ∈ w :: ws → c ∉ x) : splitK [c] 0 (count (join (w :: ws) [c]) [c]) (join (w :: ws) [c]) = w :: ws := by
  rw [count_join w ws h]
  exact splitK_join w ws h
end Go.Pl
