/- Amounts, days and terms in words are read again: no program. -/
import Derived.Test.YtgbmambkgcjhfaaGreatDoorD19
import Derived.Test.YtgbmambkgcjhfaaGreatDoorP3
set_option linter.unusedVariables false
namespace Go.Proofs.YtgbmambkgcjhfaaGreatDoor
open Go Go.Proofs Go.Wk Go.Pl
/-! Amounts. -/
def cQ (c : Int) : List UInt8 := Lib.decDigits (c.natAbs / 100)
def cR (c : Int) : List UInt8 := [UInt8.ofNat (48 + c.natAbs % 100 / 10), UInt8.ofNat (48 + c.natAbs % 100 % 10)]
theorem coinL_pos {c : Int} (h : 0 ≤ c) : coinL c = cQ c ++ 46 :: cR c := by
  unfold coinL cQ cR
  rw [if_neg (by omega)]
  simp
theorem cQ_dig (c : Int) : ∀ x, x ∈ cQ c → dgB x = true := dec_dig _
theorem cR_dig (c : Int) : ∀ x, x ∈ cR c → dgB x = true := by
  intro x hx
  unfold cR at hx
  rcases List.mem_cons.1 hx with h | h
  · rw [h]; exact dgB_of (by omega)
  · rw [List.mem_singleton.1 h]; exact dgB_of (by omega)
theorem coin_cut {c : Int} (h : 0 ≤ c) : Lib.cut (coinL c) [46] = (cQ c, cR c, true) := by
  rw [coinL_pos h]
  exact cut_one (not_mem_of_dig (cQ_dig c) rfl)
theorem coin_int {c : Int} (h0 : 0 ≤ c) (h1 : c ≤ 9223372036854775807) : Lib.parseIntB 64 (cQ c ++ cR c) = .ok c := by
  have hp : Lib.parseUintM 18446744073709551615 0 (cQ c ++ cR c) = .ok c.natAbs := by
    unfold cQ cR
    rw [parseM_dec _ (by omega) _ _ 0 (by omega), Nat.zero_mul, Nat.zero_add, parseM_step _ _ _ (by omega) (by omega) (by omega), parseM_step _ _ _ (by omega) (by omega) (by omega), Lib.parseUintM]
    congr 1
    omega
  have h := parseIntB_pos (l := cQ c ++ cR c) (u := c.natAbs) (fun x hx => by
    rcases List.mem_append.1 hx with h | h
    · exact cQ_dig c x h
    · exact cR_dig c x h) (by unfold cR; simp) hp (by omega)
  rw [h]
  congr 1
  omega
theorem trim_cQ (c : Int) : Lib.trimPrefix (cQ c) [45] = cQ c := by
  unfold Lib.trimPrefix Lib.hasPrefix
  cases h : cQ c with
  | nil => rfl
  | cons x r =>
    have hx := cQ_dig c x (by rw [h]; exact List.mem_cons_self)
    have hne : (45 : UInt8) ≠ x := fun e => by rw [← e] at hx; cases hx
    rw [if_neg (by simp [List.isPrefixOf, hne])]
theorem cQ_ne (c : Int) : cQ c ≠ [] := dec_ne _
theorem cQ_head (c : Int) : ∀ x r, cQ c = x :: r → r ≠ [] → x ≠ 48 := dec_head _
theorem coin_sp {c : Int} (h : 0 ≤ c) : (32 : UInt8) ∉ coinL c := by
  rw [coinL_pos h]
  intro hm
  rcases List.mem_append.1 hm with h1 | h1
  · exact not_mem_of_dig (cQ_dig c) rfl h1
  · rcases List.mem_cons.1 h1 with h2 | h2
    · cases h2
    · exact not_mem_of_dig (cR_dig c) rfl h2
theorem coin_inj {a b : Int} (ha : 0 ≤ a) (ha2 : a ≤ 9223372036854775807) (hb : 0 ≤ b) (hb2 : b ≤ 9223372036854775807) (h : coinL a = coinL b) : a = b := by
  have h1 := coin_cut ha
  rw [h, coin_cut hb] at h1
  have e1 : cQ b = cQ a := congrArg Prod.fst h1
  have e2 : cR b = cR a := congrArg (fun x => x.2.1) h1
  have h2 := coin_int ha ha2
  rw [← e1, ← e2, coin_int hb hb2] at h2
  injection h2 with h2
  exact h2.symm
theorem coin_len (c : Int) (h : inK .i64 c) : (coinL c).length ≤ 24 := by
  unfold coinL
  have h1 := h.1
  have h2 := h.2
  simp only [kLo, kHi] at h1 h2
  have hd := Lib.nDigits_le20 (c.natAbs / 100) (by omega)
  simp only [List.length_append, Lib.decDigits_length, List.length_cons, List.length_nil]
  split <;> simp <;> omega
/-! Numbers and days. -/
theorem itoa_nat {n : Int} (h : 0 ≤ n) : Lib.itoa n = Lib.decDigits n.toNat := by unfold Lib.itoa; rw [if_neg (by omega)]
theorem nd_le : ∀ (k u : Nat), u < 10 ^ (k + 1) → Lib.nDigits u ≤ k + 1
  | 0, u, h => by rw [Lib.nDigits_small (by simpa using h)]; exact Nat.le_refl _
  | k + 1, u, h => by
    by_cases hu : u < 10
    · rw [Lib.nDigits_small hu]; omega
    · rw [Lib.nDigits_big hu]
      have := nd_le k (u / 10) (by rw [Nat.pow_succ] at h; omega)
      omega
theorem padL_nat {n : Int} (h : 0 ≤ n) (k : Nat) : padL n (k : Int) = List.replicate (k - Lib.nDigits n.toNat) 48 ++ Lib.decDigits n.toNat := by
  unfold padL
  rw [itoa_nat h, Lib.decDigits_length, Int.toNat_natCast]
theorem padL_length {n : Int} (h : 0 ≤ n) (k : Nat) (hk : n < ((10 ^ (k + 1) : Nat) : Int)) : (padL n ((k + 1 : Nat) : Int)).length = k + 1 := by
  rw [padL_nat h, List.length_append, List.length_replicate, Lib.decDigits_length]
  have := nd_le k n.toNat (by omega)
  omega
theorem padL_atoi {n : Int} (h : 0 ≤ n) (h1 : n < 9223372036854775808) (k : Nat) : Lib.atoiAll (padL n (k : Int)) = .ok n := by
  rw [padL_nat h, atoi_pad _ _ (by omega)]
  congr 1
  omega
theorem padL_dig {n : Int} (h : 0 ≤ n) (k : Nat) : ∀ x, x ∈ padL n (k : Int) → dgB x = true := by
  intro x hx
  rw [padL_nat h] at hx
  rcases List.mem_append.1 hx with h1 | h1
  · rw [(List.mem_replicate.1 h1).2]; rfl
  · exact dec_dig _ x h1
structure DatP (y m d : Int) : Prop where
  ly : (padL y 4).length = 4
  lm : (padL m 2).length = 2
  ld : (padL d 2).length = 2
  ay : Lib.atoiAll (padL y 4) = .ok y
  am : Lib.atoiAll (padL m 2) = .ok m
  ad : Lib.atoiAll (padL d 2) = .ok d
theorem datP {y m d : Int} (h : Dat y m d) : DatP y m d := by
  have hl := len_pos (y := y) (m := m)
  have h1 := h.y1
  have h2 := h.y2
  have h3 := h.m1
  have h4 := h.m2
  have h5 := h.d1
  have h6 := h.d2
  exact ⟨padL_length (by omega) 3 (by omega), padL_length (by omega) 1 (by omega), padL_length (by omega) 1 (by omega), padL_atoi (by omega) (by omega) 4, padL_atoi (by omega) (by omega) 2, padL_atoi (by omega) (by omega) 2⟩
theorem dat_length {y m d : Int} (h : Dat y m d) : (datL y m d).length = 10 := by
  have p := datP h
  unfold datL
  simp only [List.length_append, p.ly, p.lm, p.ld, List.length_cons, List.length_nil]
theorem dat_y {y m d : Int} (h : Dat y m d) : ((datL y m d).drop 0).take 4 = padL y 4 := by
  have p := datP h
  unfold datL
  rw [List.drop_zero, List.append_assoc, List.append_assoc, List.append_assoc, List.take_left' p.ly]
theorem dat_m {y m d : Int} (h : Dat y m d) : ((datL y m d).drop 5).take 2 = padL m 2 := by
  have p := datP h
  unfold datL
  have e : (padL y 4 ++ [45]).length = 5 := by rw [List.length_append, p.ly]; rfl
  rw [List.append_assoc, List.append_assoc, List.drop_left' e, List.take_left' p.lm]
theorem dat_d {y m d : Int} (h : Dat y m d) : ((datL y m d).drop 8).take 2 = padL d 2 := by
  have p := datP h
  unfold datL
  have e : (padL y 4 ++ [45] ++ padL m 2 ++ [45]).length = 8 := by simp only [List.length_append, p.ly, p.lm]; rfl
  rw [List.drop_left' e, List.take_of_length_le (by rw [p.ld]; omega)]
theorem dat_inj {y m d y' m' d' : Int} (h : Dat y m d) (h' : Dat y' m' d') (e : datL y m d = datL y' m' d') : y = y' ∧ m = m' ∧ d = d' := by
  have p := datP h
  have p' := datP h'
  refine ⟨?_, ?_, ?_⟩
  · have a := p.ay
    rw [← dat_y h, e, dat_y h', p'.ay] at a
    injection a with a
    exact a.symm
  · have a := p.am
    rw [← dat_m h, e, dat_m h', p'.am] at a
    injection a with a
    exact a.symm
  · have a := p.ad
    rw [← dat_d h, e, dat_d h', p'.ad] at a
    injection a with a
    exact a.symm
theorem dat_sp {y m d : Int} (h : Dat y m d) : (32 : UInt8) ∉ datL y m d := by
  have hl := len_pos (y := y) (m := m)
  have h1 := h.y1
  have h3 := h.m1
  have h5 := h.d1
  have n1 := not_mem_of_dig (padL_dig (n := y) (by omega) 4) (x := 32) rfl
  have n2 := not_mem_of_dig (padL_dig (n := m) (by omega) 2) (x := 32) rfl
  have n3 := not_mem_of_dig (padL_dig (n := d) (by omega) 2) (x := 32) rfl
  unfold datL
  simp only [List.mem_append, List.mem_singleton, not_or]
  exact ⟨⟨⟨⟨n1, by decide⟩, n2⟩, by decide⟩, n3⟩
theorem num_sp {n : Int} (h : 0 ≤ n) : (32 : UInt8) ∉ Lib.itoa n := by
  rw [itoa_nat h]
  exact not_mem_of_dig (dec_dig _) rfl
/-- What a day's words are. -/
def DayT (n : Int) (s : ByteArray) : Prop := ∃ y m d, Dat y m d ∧ numD y m d = n ∧ s = strOf (datL y m d)
theorem strOf_inj {a b : List UInt8} (h : strOf a = strOf b) : a = b := by
  have := congrArg (fun s : ByteArray => s.data.toList) h
  simpa [strOf_data] using this
theorem DayT.inj {n n' : Int} {s : ByteArray} (h : DayT n s) (h' : DayT n' s) : n = n' := by
  obtain ⟨y, m, d, hd, hn, hs⟩ := h
  obtain ⟨y', m', d', hd', hn', hs'⟩ := h'
  obtain ⟨e1, e2, e3⟩ := dat_inj hd hd' (strOf_inj (hs.symm.trans hs'))
  rw [← hn, ← hn', e1, e2, e3]
theorem DayT.uniq {n : Int} {s s' : ByteArray} (h : DayT n s) (h' : DayT n s') : s = s' := by
  obtain ⟨y, m, d, hd, hn, hs⟩ := h
  obtain ⟨y', m', d', hd', hn', hs'⟩ := h'
  obtain ⟨e1, e2, e3⟩ := num_inj hd hd' (hn.trans hn'.symm)
  rw [hs, hs', e1, e2, e3]
/-! Terms. -/
def bsL (s : ByteArray) : List UInt8 := s.data.toList
def tmWords (t : Tm) (dl : List UInt8) : List (List UInt8) := [bsL (lvName t.kind), coinL t.prin, Lib.itoa t.parts, bsL (spName t.basis), Lib.itoa t.months, dl, coinL t.fee, Lib.itoa t.grace]
/-- What terms' words are. -/
def TmT (t : Tm) (s : ByteArray) : Prop := ∃ y m d, Dat y m d ∧ numD y m d = t.start ∧ s = strOf (Lib.join (tmWords t (datL y m d)) [32])
theorem TmT.uniq {t : Tm} {s s' : ByteArray} (h : TmT t s) (h' : TmT t s') : s = s' := by
  obtain ⟨y, m, d, hd, hn, hs⟩ := h
  obtain ⟨y', m', d', hd', hn', hs'⟩ := h'
  obtain ⟨e1, e2, e3⟩ := num_inj hd hd' (hn.trans hn'.symm)
  rw [hs, hs', e1, e2, e3]
theorem lv_sp (k : Int) (h : k = 1 ∨ k = 2) : (32 : UInt8) ∉ bsL (lvName k) := by
  rcases h with rfl | rfl <;> decide
theorem sp_sp (k : Int) (h : k = 1 ∨ k = 2) : (32 : UInt8) ∉ bsL (spName k) := by
  rcases h with rfl | rfl <;> decide
theorem words_sp {t : Tm} (ok : TmOk t) (h0 : 0 ≤ t.parts) {y m d : Int} (hd : Dat y m d) : ∀ x, x ∈ tmWords t (datL y m d) → (32 : UInt8) ∉ x := by
  intro x hx
  unfold tmWords at hx
  simp only [List.mem_cons, List.not_mem_nil, or_false] at hx
  rcases hx with h | h | h | h | h | h | h | h <;> rw [h]
  · exact lv_sp _ ok.kind
  · exact coin_sp (by have := ok.prin; omega)
  · exact num_sp h0
  · exact sp_sp _ ok.basis
  · exact num_sp (by have := ok.months; omega)
  · exact dat_sp hd
  · exact coin_sp (by have := ok.fee; omega)
  · exact num_sp (by have := ok.grace; omega)
theorem words_split {t : Tm} (ok : TmOk t) (h0 : 0 ≤ t.parts) {y m d : Int} (hd : Dat y m d) : Lib.splitK [32] 0 (Lib.count (Lib.join (tmWords t (datL y m d)) [32]) [32]) (Lib.join (tmWords t (datL y m d)) [32]) = tmWords t (datL y m d) := split_join _ _ (words_sp ok h0 hd)
theorem words_count {t : Tm} (ok : TmOk t) (h0 : 0 ≤ t.parts) {y m d : Int} (hd : Dat y m d) : Lib.count (Lib.join (tmWords t (datL y m d)) [32]) [32] = 7 := count_join _ _ (words_sp ok h0 hd)
theorem lv_inj {k k' : Int} (h : k = 1 ∨ k = 2) (h' : k' = 1 ∨ k' = 2) (e : bsL (lvName k) = bsL (lvName k')) : k = k' := by
  rcases h with rfl | rfl <;> rcases h' with rfl | rfl
  · rfl
  · exact absurd e (by decide)
  · exact absurd e (by decide)
  · rfl
theorem sp_inj {k k' : Int} (h : k = 1 ∨ k = 2) (h' : k' = 1 ∨ k' = 2) (e : bsL (spName k) = bsL (spName k')) : k = k' := by
  rcases h with rfl | rfl <;> rcases h' with rfl | rfl
  · rfl
  · exact absurd e (by decide)
  · exact absurd e (by decide)
  · rfl
theorem num_inj2 {a b : Int} (ha : 0 ≤ a) (ha2 : a < 9223372036854775808) (hb : 0 ≤ b) (hb2 : b < 9223372036854775808) (e : Lib.itoa a = Lib.itoa b) : a = b := by
  rw [itoa_nat ha, itoa_nat hb] at e
  have h1 := atoi_num a.toNat (by omega)
  rw [e, atoi_num b.toNat (by omega)] at h1
  injection h1 with h1
  omega
theorem TmT.inj {t t' : Tm} (ok : TmOk t) (h0 : 0 ≤ t.parts) (ok' : TmOk t') (h0' : 0 ≤ t'.parts) {s : ByteArray} (h : TmT t s) (h' : TmT t' s) : t = t' := by
  obtain ⟨y, m, d, hd, hn, hs⟩ := h
  obtain ⟨y', m', d', hd', hn', hs'⟩ := h'
  have e := strOf_inj (hs.symm.trans hs')
  have w := words_split ok h0 hd
  rw [e, words_split ok' h0' hd'] at w
  unfold tmWords at w
  simp only [List.cons.injEq, and_true] at w
  obtain ⟨w1, w2, w3, w4, w5, w6, w7, w8⟩ := w
  have b1 := ok.prin
  have b2 := ok'.prin
  have b3 := ok.months
  have b4 := ok'.months
  have b5 := ok.fee
  have b6 := ok'.fee
  have b7 := ok.grace
  have b8 := ok'.grace
  have b9 := ok.parts
  have b10 := ok'.parts
  obtain ⟨d1, d2, d3⟩ := dat_inj hd' hd w6
  have e1 := lv_inj ok'.kind ok.kind w1
  have e2 := coin_inj (by omega) (by omega) (by omega) (by omega) w2
  have e3 := num_inj2 h0' (by omega) h0 (by omega) w3
  have e4 := sp_inj ok'.basis ok.basis w4
  have e5 := num_inj2 (by omega) (by omega) (by omega) (by omega) w5
  have e7 := coin_inj (by omega) (by omega) (by omega) (by omega) w7
  have e8 := num_inj2 (by omega) (by omega) (by omega) (by omega) w8
  have e6 : t'.start = t.start := by rw [← hn, ← hn', d1, d2, d3]
  cases t; cases t'
  simp only at e1 e2 e3 e4 e5 e6 e7 e8
  subst e1 e2 e3 e4 e5 e6 e7 e8
  rfl
end Go.Proofs.YtgbmambkgcjhfaaGreatDoor
