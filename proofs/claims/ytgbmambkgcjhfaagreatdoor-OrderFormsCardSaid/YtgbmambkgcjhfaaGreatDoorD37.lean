/- The document's words of terms: the walks. Printed by gen37.py. -/
import Derived.Test.YtgbmambkgcjhfaaGreatDoorD36
set_option linter.unusedVariables false
namespace Go.Proofs.YtgbmambkgcjhfaaGreatDoor
open Go Go.Proofs Go.Wk Go.Pl
theorem dec2 {u : Nat} (h1 : 10 ≤ u) (h2 : u < 100) : Lib.decDigits u = [UInt8.ofNat (48 + u / 10), UInt8.ofNat (48 + u % 10)] := by
  rw [dec_cons (by omega), dec1 (by omega), dec1 (by omega)]; rfl
theorem dec3 {u : Nat} (h1 : 100 ≤ u) (h2 : u < 1000) : Lib.decDigits u = [UInt8.ofNat (48 + u / 100), UInt8.ofNat (48 + u / 10 % 10), UInt8.ofNat (48 + u % 10)] := by
  rw [dec_cons (by omega), dec2 (by omega) (by omega), dec1 (by omega), show u / 10 / 10 = u / 100 by omega]; rfl
theorem dec4 {u : Nat} (h1 : 1000 ≤ u) (h2 : u < 10000) : Lib.decDigits u = [UInt8.ofNat (48 + u / 1000), UInt8.ofNat (48 + u / 100 % 10), UInt8.ofNat (48 + u / 10 % 10), UInt8.ofNat (48 + u % 10)] := by
  rw [dec_cons (by omega), dec3 (by omega) (by omega), dec1 (by omega), show u / 10 / 100 = u / 1000 by omega, show u / 10 / 10 % 10 = u / 100 % 10 by omega]; rfl
theorem pad2 {u : Nat} (h : u < 100) : List.replicate (2 - Lib.nDigits u) 48 ++ Lib.decDigits u = twoL u := by
  rw [← Lib.decDigits_length]
  by_cases h1 : u < 10
  · rw [dec1 h1]
    unfold twoL
    rw [show u / 10 % 10 = 0 by omega, show u % 10 = u by omega]; rfl
  · rw [dec2 (by omega) h]
    unfold twoL
    rw [show u / 10 % 10 = u / 10 by omega]; rfl
theorem pad4 {u : Nat} (h : u < 10000) : List.replicate (4 - Lib.nDigits u) 48 ++ Lib.decDigits u = twoL (u / 100) ++ twoL u := by
  rw [← Lib.decDigits_length]
  by_cases h1 : u < 10
  · rw [dec1 h1]
    unfold twoL
    rw [show u / 100 / 10 % 10 = 0 by omega, show u / 100 % 10 = 0 by omega, show u / 10 % 10 = 0 by omega, show u % 10 = u by omega]; rfl
  by_cases h2 : u < 100
  · rw [dec2 (by omega) h2]
    unfold twoL
    rw [show u / 100 / 10 % 10 = 0 by omega, show u / 100 % 10 = 0 by omega, show u / 10 % 10 = u / 10 by omega]; rfl
  by_cases h3 : u < 1000
  · rw [dec3 (by omega) h3]
    unfold twoL
    rw [show u / 100 / 10 % 10 = 0 by omega, show u / 100 % 10 = u / 100 by omega]; rfl
  · rw [dec4 (by omega) h]
    unfold twoL
    rw [show u / 100 / 10 % 10 = u / 1000 by omega]; rfl
theorem datL_two {y m d : Int} (hD : Dat y m d) : datL y m d = twoL (y.toNat / 100) ++ twoL y.toNat ++ [45] ++ twoL m.toNat ++ [45] ++ twoL d.toNat := by
  have hl := len_pos (y := y) (m := m)
  have h1 := hD.y1
  have h2 := hD.y2
  have h3 := hD.m1
  have h4 := hD.m2
  have h5 := hD.d1
  have h6 := hD.d2
  unfold datL
  have e1 : padL y 4 = twoL (y.toNat / 100) ++ twoL y.toNat := by
    have := padL_nat (n := y) (by omega) 4
    rw [← pad4 (by omega)]; exact this
  have e2 : padL m 2 = twoL m.toNat := by
    have := padL_nat (n := m) (by omega) 2
    rw [← pad2 (by omega)]; exact this
  have e3 : padL d 2 = twoL d.toNat := by
    have := padL_nat (n := d) (by omega) 2
    rw [← pad2 (by omega)]; exact this
  rw [e1, e2, e3]
theorem refDate (y m d : Int) (hD : Dat y m d) (w : World) (M I : BS) (H : Hp ⟨w, M, I⟩ [] [] w) :
    Ctr Tryz.prog 58 [civV y m d] w M I (fun _ : Unit => .string (strOf (datL y m d))) (fun _ => True) (fun _ => []) (fun _ => []) := by
  have hl := len_pos (y := y) (m := m)
  have h1 := hD.y1
  have h2 := hD.y2
  have h3 := hD.m1
  have h4 := hD.m2
  have h5 := hD.d1
  have h6 := hD.d2
  have e2 : IntKind.i64.wrap (y.tdiv 100) = ((y.toNat / 100 : Nat) : Int) := by
    rw [Int.tdiv_eq_ediv_of_nonneg (by omega), w64 (by omega) (by omega)]; omega
  have c45 : (⟨#[45]⟩ : ByteArray) = strOf [45] := rfl
  have ht : ∀ n, (twoL n).length = 2 := fun _ => rfl
  refine Exe.of_ev tok Tryz.call58 Tryz.func58 rfl rfl rfl ?_
  refine box_as H (civC y m d) rfl fun r w1 H1 => ?_
  have H1 : Hp ⟨w, M, I⟩ [blk r (civC y m d) 113] [] w1 := H1
  refine draw_rule (A := []) tok tdr H1 [0, 1, 2, 3, 4, 5, 6, 9, 10, 11, 14, 15, 16, 7, 8, 12, 13, 17, 18] [0, 1, 3, 7, 0, 16, 63, 127, 255, 0, 512, 1663, 4095, 8191, 0, 16384, 52863, 131071, 262143] rfl ?_
  refine pass_rule _ (fun w h => load_rule tok h (v := .int .i64 y) rfl ⟨rfl, rfl⟩) ?_
  refine pass_rule _ (fun w h => quo_as ((y.toNat / 100 : Nat) : Int) (by decide) e2 ⟨rfl, rfl⟩) ?_
  refine imp_rule (fun X wx h => call_rule h (fun M I _ h => refTwo (y.toNat / 100) (by omega) _ M I h) fun _ w1 _ H1 => imp_done H1 ?_)
  refine pass_rule _ (fun w h => load_rule tok h (v := .int .i64 y) rfl ⟨rfl, rfl⟩) ?_
  refine imp_rule (fun X wx h => call_rule h (fun M I _ h => refTwo_as y.toNat y (by omega) (by omega) _ M I h) fun _ w1 _ H1 => imp_done H1 ?_)
  refine pass_rule _ (fun w h => load_rule tok h (v := .int .i64 m) rfl ⟨rfl, rfl⟩) ?_
  refine imp_rule (fun X wx h => call_rule h (fun M I _ h => refTwo_as m.toNat m (by omega) (by omega) _ M I h) fun _ w1 _ H1 => imp_done H1 ?_)
  refine pass_rule _ (fun w h => load_rule tok h (v := .int .i64 d) rfl ⟨rfl, rfl⟩) ?_
  refine imp_rule (fun X wx h => call_rule h (fun M I _ h => refTwo_as d.toNat d (by omega) (by omega) _ M I h) fun _ w1 _ H1 => imp_done H1 ?_)
  refine pass_rule _ (fun w h => sadd_as (strOf (twoL (y.toNat / 100) ++ twoL y.toNat)) (strOf_app _ _) (by rw [strOf_size]; simp only [List.length_append, ht]; decide) ⟨rfl, rfl⟩) ?_
  refine pass_rule _ (fun w h => sadd_as (strOf (twoL (y.toNat / 100) ++ twoL y.toNat ++ [45])) (by rw [c45, strOf_app]) (by rw [strOf_size]; simp only [List.length_append, ht, List.length_cons, List.length_nil]; decide) ⟨rfl, rfl⟩) ?_
  refine pass_rule _ (fun w h => sadd_as (strOf (twoL (y.toNat / 100) ++ twoL y.toNat ++ [45] ++ twoL m.toNat)) (strOf_app _ _) (by rw [strOf_size]; simp only [List.length_append, ht, List.length_cons, List.length_nil]; decide) ⟨rfl, rfl⟩) ?_
  refine pass_rule _ (fun w h => sadd_as (strOf (twoL (y.toNat / 100) ++ twoL y.toNat ++ [45] ++ twoL m.toNat ++ [45])) (by rw [c45, strOf_app]) (by rw [strOf_size]; simp only [List.length_append, ht, List.length_cons, List.length_nil]; decide) ⟨rfl, rfl⟩) ?_
  refine pass_rule _ (fun w h => sadd_as (strOf (datL y m d)) (by rw [strOf_app, datL_two hD]) (by rw [strOf_size, dat_length hD]; decide) ⟨rfl, rfl⟩) ?_
  refine done_rule fun w4 H4 => ?_
  exact Exists.intro () (And.intro rfl (And.intro trivial (Hp.keep H4)))
theorem refCoin (c : Int) (h0 : 0 ≤ c) (h1 : c ≤ 9223372036854775807) (w : World) (M I : BS) (H : Hp ⟨w, M, I⟩ [] [] w) :
    Ctr Tryz.prog 60 [.int .i64 c] w M I (fun _ : Unit => .string (strOf (coinL c))) (fun _ => True) (fun _ => []) (fun _ => []) := by
  obtain ⟨n, rfl⟩ : ∃ n : Nat, c = n := ⟨c.toNat, by omega⟩
  have ew : IntKind.u64.wrap ((n : Nat) : Int) = (n : Int) := wrap_id ⟨by show (0 : Int) ≤ _; omega, by show _ ≤ (18446744073709551615 : Int); omega⟩
  have hn : n < 18446744073709551616 := by omega
  have c46 : (⟨#[46]⟩ : ByteArray) = strOf [46] := rfl
  have c0 : (⟨#[]⟩ : ByteArray) = strOf [] := rfl
  have hl := dec_len (n / 100) (by omega)
  have ec : coinL (n : Int) = Lib.decDigits (n / 100) ++ [46] ++ Lib.decDigits (n / 10 % 10) ++ Lib.decDigits (n % 10) := by
    unfold coinL
    rw [if_neg (by omega), dec1 (n := n / 10 % 10) (by omega), dec1 (n := n % 10) (by omega)]
    rw [Int.natAbs_natCast, show n % 100 / 10 = n / 10 % 10 by omega, show n % 100 % 10 = n % 10 by omega]
    simp
  have l1 : (Lib.decDigits (n / 10 % 10)).length = 1 := by rw [dec1 (by omega)]; rfl
  have l2 : (Lib.decDigits (n % 10)).length = 1 := by rw [dec1 (by omega)]; rfl
  refine Exe.of_ev tok Tryz.call60 Tryz.func60 rfl rfl rfl ?_
  refine quo_as ((n / 100 : Nat) : Int) (by decide) (by rw [ew]; exact quoN n 100 hn) ?_
  refine call_rule H (fun M I _ h => refDec (n / 100) (by omega) _ M I h) fun _ w1 _ H1 => ?_
  refine sadd_as (strOf (Lib.decDigits (n / 100))) (by rw [c0, strOf_app]; rfl) (by rw [strOf_size]; omega) ?_
  refine sadd_as (strOf (Lib.decDigits (n / 100) ++ [46])) (by rw [c46, strOf_app]) (by rw [strOf_size]; simp only [List.length_append, List.length_cons, List.length_nil]; omega) ?_
  refine quo_as ((n / 10 : Nat) : Int) (by decide) (by rw [ew]; exact quoN n 10 hn) ?_
  refine rem_as ((n / 10 % 10 : Nat) : Int) (by decide) rfl ?_
  refine call_rule H1 (fun M I _ h => refDec (n / 10 % 10) (by omega) _ M I h) fun _ w2 _ H2 => ?_
  refine sadd_as (strOf (Lib.decDigits (n / 100) ++ [46] ++ Lib.decDigits (n / 10 % 10))) (strOf_app _ _) (by rw [strOf_size]; simp only [List.length_append, List.length_cons, List.length_nil]; omega) ?_
  refine rem_as ((n % 10 : Nat) : Int) (by decide) (by rw [ew]; rfl) ?_
  refine call_rule H2 (fun M I _ h => refDec (n % 10) (by omega) _ M I h) fun _ w3 _ H3 => ?_
  refine sadd_as (strOf (coinL (n : Int))) (by rw [strOf_app, ec]) (by rw [strOf_size, ec]; simp only [List.length_append, List.length_cons, List.length_nil]; omega) ?_
  exact Exists.intro () (And.intro rfl (And.intro trivial (Hp.keep H3)))
theorem kindS (t : Tm) (ok : TmOk t) : ldV (tb 9) [.string ⟨#[]⟩, .string ⟨#[108, 101, 118, 101, 108]⟩, .string ⟨#[111, 110, 108, 121]⟩] (0 + t.kind.toNat * 1) = some (.string (strOf (bsL (lvName t.kind)))) := by
  rw [← lv_strOf]
  rcases ok.kind with h | h <;> rw [h] <;> rfl
theorem basisS (t : Tm) (ok : TmOk t) : ldV (tb 9) [.string ⟨#[]⟩, .string ⟨#[97, 99, 116, 117, 97, 108]⟩, .string ⟨#[116, 104, 105, 114, 116, 121]⟩] (0 + t.basis.toNat * 1) = some (.string (strOf (bsL (spName t.basis)))) := by
  rw [← sp_strOf]
  rcases ok.basis with h | h <;> rw [h] <;> rfl
theorem words_len2 (t : Tm) (hin : TmIn t) {y m d : Int} (hd : Dat y m d) : ∀ x, x ∈ tmWords t (datL y m d) → x.length ≤ 30 := by
  intro x hx
  unfold tmWords at hx
  simp only [List.mem_cons, List.not_mem_nil, or_false] at hx
  have hi : ∀ n, inK .i64 n → (Lib.itoa n).length ≤ 30 := fun n h => Nat.le_trans (Lib.itoa_length_le n h.1 h.2) (by decide)
  have hp : inK .i64 t.parts := ⟨by have := hin.parts.1; simp only [kLo] at this ⊢; omega, by have := hin.parts.2; simp only [kHi] at this ⊢; omega⟩
  rcases hx with h | h | h | h | h | h | h | h <;> rw [h]
  · exact Nat.le_trans (name_len t.kind).1 (by decide)
  · exact Nat.le_trans (coin_len _ hin.prin) (by decide)
  · exact hi _ hp
  · exact Nat.le_trans (name_len t.basis).2 (by decide)
  · exact hi _ hin.months
  · rw [dat_length hd]; decide
  · exact Nat.le_trans (coin_len _ hin.fee) (by decide)
  · exact hi _ hin.grace
set_option maxHeartbeats 4000000 in
set_option maxRecDepth 20000 in
/-- The document's words of terms. -/
theorem refText (t : Tm) (hin : TmIn t) (ok : TmOk t) (w : World) (M I : BS) (H : Hp ⟨w, M, I⟩ [] [] w) :
    Ctr Tryz.prog 38 [rtV t] w M I (fun s : ByteArray => .string s) (fun s => TmT t s) (fun _ => []) (fun _ => []) := by
  have b1 := ok.prin
  have b2 := ok.months
  have b3 := ok.start
  have b4 := ok.fee
  have b5 := ok.grace
  have b6 : 0 ≤ t.parts := hin.parts.1
  have b7 := ok.parts
  have b8 : 0 ≤ t.kind ∧ t.kind < 3 := by rcases ok.kind with h | h <;> omega
  have b9 : 0 ≤ t.basis ∧ t.basis < 3 := by rcases ok.basis with h | h <;> omega
  have c32 : (⟨#[32]⟩ : ByteArray) = strOf [32] := rfl
  have dN : ∀ n : Int, 0 ≤ n → n < 18446744073709551616 → ∀ (w : World) (M I : BS), Hp ⟨w, M, I⟩ [] [] w → Ctr Tryz.prog 57 [.int .u64 (IntKind.u64.wrap n)] w M I (fun _ : Unit => .string (strOf (Lib.itoa n))) (fun _ => True) (fun _ => []) (fun _ => []) := fun n h0 h1 w M I H => by
    rw [itoa_nat h0]
    exact refDec_as n.toNat _ (u64_of h0 h1) (by omega) w M I H
  refine Exe.of_ev tok Tryz.call38 Tryz.func38 rfl rfl rfl ?_
  refine box_as H (rtC t) rfl fun r w1 H1 => ?_
  refine slice_as tok H1 [.string ⟨#[]⟩, .string ⟨#[108, 101, 118, 101, 108]⟩, .string ⟨#[111, 110, 108, 121]⟩] rfl rfl rfl rfl rfl rfl fun g1 w2 H2 => ?_
  refine load_rule tok H2 (v := .int .u8 t.kind) rfl ?_
  refine idx_own tok rfl rfl b8.1 b8.2 ?_
  refine load_rule tok H2 (v := .string (strOf (bsL (lvName t.kind)))) (kindS t ok) ?_
  refine slice_as tok H2 [.string ⟨#[]⟩, .string ⟨#[97, 99, 116, 117, 97, 108]⟩, .string ⟨#[116, 104, 105, 114, 116, 121]⟩] rfl rfl rfl rfl rfl rfl fun g2 w3 H3 => ?_
  refine load_rule tok H3 (v := .int .u8 t.basis) rfl ?_
  refine idx_own tok rfl rfl b9.1 b9.2 ?_
  refine load_rule tok H3 (v := .string (strOf (bsL (spName t.basis)))) (basisS t ok) ?_
  have H3 : Hp ⟨w, M, I⟩ [blk r (rtC t) 36] [] w3 := Hp.keep H3
  refine draw_rule (A := []) tok tdr H3 [2, 3, 4, 7, 8, 9, 10, 16, 17, 18, 19, 22, 23, 24, 25, 28, 29, 30, 33, 34, 35, 36, 0, 1, 5, 6, 11, 12, 13, 14, 15, 20, 21, 26, 27, 31, 32, 37, 38] [0, 1, 0, 4, 12, 31, 63, 0, 128, 384, 924, 2047, 4095, 0, 16383, 32767, 0, 65536, 196608, 460700, 1048575, 2097151, 0, 4194304, 13567900, 30345116, 67108863, 134217727, 0, 268435456, 869205916, 2147483647, 4294967295, 0, 8589934592, 25769803776, 62072489884, 137438953471, 274877906943] rfl ?_
  refine pass_rule _ (fun w h => load_rule tok h (v := .int .i64 t.prin) rfl ⟨rfl, rfl⟩) ?_
  refine imp_rule (fun X wx h => call_rule h (fun M I _ h => refCoin t.prin (by omega) (by omega) _ M I h) fun _ w1 _ H1 => imp_done H1 ?_)
  refine pass_rule _ (fun w h => load_rule tok h (v := .int .u32 t.parts) rfl ⟨rfl, rfl⟩) ?_
  refine imp_rule (fun X wx h => call_rule h (fun M I _ h => dN t.parts (by omega) (by omega) _ M I h) fun _ w1 _ H1 => imp_done H1 ?_)
  refine pass_rule _ (fun w h => load_rule tok h (v := .int .i64 t.months) rfl ⟨rfl, rfl⟩) ?_
  refine imp_rule (fun X wx h => call_rule h (fun M I _ h => dN t.months (by omega) (by omega) _ M I h) fun _ w1 _ H1 => imp_done H1 ?_)
  refine pass_rule _ (fun w h => load_rule tok h (v := .int .i64 t.start) rfl ⟨rfl, rfl⟩) ?_
  refine imp_rule (fun X wx h => call_rule h (fun M I _ h => refCivil t.start (by omega) (by omega) _ M I h) fun a w1 ha H1 => imp_done H1 ?_)
  refine imp_rule (fun X wx h => call_rule h (fun M I _ h => refDate a.1 a.2.1 a.2.2 ha.1 _ M I h) fun _ w1 _ H1 => imp_done H1 ?_)
  refine pass_rule _ (fun w h => load_rule tok h (v := .int .i64 t.fee) rfl ⟨rfl, rfl⟩) ?_
  refine imp_rule (fun X wx h => call_rule h (fun M I _ h => refCoin t.fee (by omega) (by omega) _ M I h) fun _ w1 _ H1 => imp_done H1 ?_)
  refine pass_rule _ (fun w h => load_rule tok h (v := .int .i64 t.grace) rfl ⟨rfl, rfl⟩) ?_
  refine imp_rule (fun X wx h => call_rule h (fun M I _ h => dN t.grace (by omega) (by omega) _ M I h) fun _ w1 _ H1 => imp_done H1 ?_)
  have hw := words_len2 t hin ha.1
  unfold tmWords at hw
  have l0 := hw (bsL (lvName t.kind)) (by simp)
  have l1 := hw (coinL t.prin) (by simp)
  have l2 := hw (Lib.itoa t.parts) (by simp)
  have l3 := hw (bsL (spName t.basis)) (by simp)
  have l4 := hw (Lib.itoa t.months) (by simp)
  have l5 := hw (datL a.1 a.2.1 a.2.2) (by simp)
  have l6 := hw (coinL t.fee) (by simp)
  have l7 := hw (Lib.itoa t.grace) (by simp)
  refine pass_rule _ (fun w h => sadd_as (strOf (bsL (lvName t.kind) ++ [32])) (by rw [c32, strOf_app]) (by rw [strOf_size]; simp only [List.length_append, List.length_cons, List.length_nil]; omega) ⟨rfl, rfl⟩) ?_
  refine pass_rule _ (fun w h => sadd_as (strOf (bsL (lvName t.kind) ++ [32] ++ coinL t.prin)) (strOf_app _ _) (by rw [strOf_size]; simp only [List.length_append, List.length_cons, List.length_nil]; omega) ⟨rfl, rfl⟩) ?_
  refine pass_rule _ (fun w h => sadd_as (strOf (bsL (lvName t.kind) ++ [32] ++ coinL t.prin ++ [32])) (by rw [c32, strOf_app]) (by rw [strOf_size]; simp only [List.length_append, List.length_cons, List.length_nil]; omega) ⟨rfl, rfl⟩) ?_
  refine pass_rule _ (fun w h => sadd_as (strOf (bsL (lvName t.kind) ++ [32] ++ coinL t.prin ++ [32] ++ Lib.itoa t.parts)) (strOf_app _ _) (by rw [strOf_size]; simp only [List.length_append, List.length_cons, List.length_nil]; omega) ⟨rfl, rfl⟩) ?_
  refine pass_rule _ (fun w h => sadd_as (strOf (bsL (lvName t.kind) ++ [32] ++ coinL t.prin ++ [32] ++ Lib.itoa t.parts ++ [32])) (by rw [c32, strOf_app]) (by rw [strOf_size]; simp only [List.length_append, List.length_cons, List.length_nil]; omega) ⟨rfl, rfl⟩) ?_
  refine pass_rule _ (fun w h => sadd_as (strOf (bsL (lvName t.kind) ++ [32] ++ coinL t.prin ++ [32] ++ Lib.itoa t.parts ++ [32] ++ bsL (spName t.basis))) (strOf_app _ _) (by rw [strOf_size]; simp only [List.length_append, List.length_cons, List.length_nil]; omega) ⟨rfl, rfl⟩) ?_
  refine pass_rule _ (fun w h => sadd_as (strOf (bsL (lvName t.kind) ++ [32] ++ coinL t.prin ++ [32] ++ Lib.itoa t.parts ++ [32] ++ bsL (spName t.basis) ++ [32])) (by rw [c32, strOf_app]) (by rw [strOf_size]; simp only [List.length_append, List.length_cons, List.length_nil]; omega) ⟨rfl, rfl⟩) ?_
  refine pass_rule _ (fun w h => sadd_as (strOf (bsL (lvName t.kind) ++ [32] ++ coinL t.prin ++ [32] ++ Lib.itoa t.parts ++ [32] ++ bsL (spName t.basis) ++ [32] ++ Lib.itoa t.months)) (strOf_app _ _) (by rw [strOf_size]; simp only [List.length_append, List.length_cons, List.length_nil]; omega) ⟨rfl, rfl⟩) ?_
  refine pass_rule _ (fun w h => sadd_as (strOf (bsL (lvName t.kind) ++ [32] ++ coinL t.prin ++ [32] ++ Lib.itoa t.parts ++ [32] ++ bsL (spName t.basis) ++ [32] ++ Lib.itoa t.months ++ [32])) (by rw [c32, strOf_app]) (by rw [strOf_size]; simp only [List.length_append, List.length_cons, List.length_nil]; omega) ⟨rfl, rfl⟩) ?_
  refine pass_rule _ (fun w h => sadd_as (strOf (bsL (lvName t.kind) ++ [32] ++ coinL t.prin ++ [32] ++ Lib.itoa t.parts ++ [32] ++ bsL (spName t.basis) ++ [32] ++ Lib.itoa t.months ++ [32] ++ datL a.1 a.2.1 a.2.2)) (strOf_app _ _) (by rw [strOf_size]; simp only [List.length_append, List.length_cons, List.length_nil]; omega) ⟨rfl, rfl⟩) ?_
  refine pass_rule _ (fun w h => sadd_as (strOf (bsL (lvName t.kind) ++ [32] ++ coinL t.prin ++ [32] ++ Lib.itoa t.parts ++ [32] ++ bsL (spName t.basis) ++ [32] ++ Lib.itoa t.months ++ [32] ++ datL a.1 a.2.1 a.2.2 ++ [32])) (by rw [c32, strOf_app]) (by rw [strOf_size]; simp only [List.length_append, List.length_cons, List.length_nil]; omega) ⟨rfl, rfl⟩) ?_
  refine pass_rule _ (fun w h => sadd_as (strOf (bsL (lvName t.kind) ++ [32] ++ coinL t.prin ++ [32] ++ Lib.itoa t.parts ++ [32] ++ bsL (spName t.basis) ++ [32] ++ Lib.itoa t.months ++ [32] ++ datL a.1 a.2.1 a.2.2 ++ [32] ++ coinL t.fee)) (strOf_app _ _) (by rw [strOf_size]; simp only [List.length_append, List.length_cons, List.length_nil]; omega) ⟨rfl, rfl⟩) ?_
  refine pass_rule _ (fun w h => sadd_as (strOf (bsL (lvName t.kind) ++ [32] ++ coinL t.prin ++ [32] ++ Lib.itoa t.parts ++ [32] ++ bsL (spName t.basis) ++ [32] ++ Lib.itoa t.months ++ [32] ++ datL a.1 a.2.1 a.2.2 ++ [32] ++ coinL t.fee ++ [32])) (by rw [c32, strOf_app]) (by rw [strOf_size]; simp only [List.length_append, List.length_cons, List.length_nil]; omega) ⟨rfl, rfl⟩) ?_
  refine pass_rule _ (fun w h => sadd_as (strOf (bsL (lvName t.kind) ++ [32] ++ coinL t.prin ++ [32] ++ Lib.itoa t.parts ++ [32] ++ bsL (spName t.basis) ++ [32] ++ Lib.itoa t.months ++ [32] ++ datL a.1 a.2.1 a.2.2 ++ [32] ++ coinL t.fee ++ [32] ++ Lib.itoa t.grace)) (strOf_app _ _) (by rw [strOf_size]; simp only [List.length_append, List.length_cons, List.length_nil]; omega) ⟨rfl, rfl⟩) ?_
  have ej : Lib.join (tmWords t (datL a.1 a.2.1 a.2.2)) [32] = bsL (lvName t.kind) ++ [32] ++ coinL t.prin ++ [32] ++ Lib.itoa t.parts ++ [32] ++ bsL (spName t.basis) ++ [32] ++ Lib.itoa t.months ++ [32] ++ datL a.1 a.2.1 a.2.2 ++ [32] ++ coinL t.fee ++ [32] ++ Lib.itoa t.grace := by
    unfold tmWords
    rw [join_cons, join_cons, join_cons, join_cons, join_cons, join_cons, join_cons, join_one]
    simp only [List.append_assoc, List.cons_append, List.nil_append]
  refine done_rule fun w4 H4 => ?_
  exact Exists.intro (strOf (bsL (lvName t.kind) ++ [32] ++ coinL t.prin ++ [32] ++ Lib.itoa t.parts ++ [32] ++ bsL (spName t.basis) ++ [32] ++ Lib.itoa t.months ++ [32] ++ datL a.1 a.2.1 a.2.2 ++ [32] ++ coinL t.fee ++ [32] ++ Lib.itoa t.grace)) (And.intro rfl (And.intro ⟨a.1, a.2.1, a.2.2, ha.1, ha.2, by rw [ej]⟩ (Hp.keep H4)))
end Go.Proofs.YtgbmambkgcjhfaaGreatDoor
