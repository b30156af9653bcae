/- Terms are read of bytes: plain law and walk. Printed by gen33.py. -/
import Derived.Test.YtgbmambkgcjhfaaGreatDoorG7
set_option linter.unusedVariables false
namespace Go.Proofs.YtgbmambkgcjhfaaGreatDoor
open Go Go.Proofs Go.Wk Go.Pl
@[reducible] def tq1 (bs : List Nat) : Nat × LS := uintR 2 ⟨bs, false⟩
@[reducible] def tq2 (bs : List Nat) : Nat × LS := uintR 1000000000000 (tq1 bs).2
@[reducible] def tq3 (bs : List Nat) : Nat × LS := uintR 1000000 (tq2 bs).2
@[reducible] def tq4 (bs : List Nat) : Nat × LS := uintR 2 (tq3 bs).2
@[reducible] def tq5 (bs : List Nat) : Nat × LS := uintR 480 (tq4 bs).2
@[reducible] def tq6 (bs : List Nat) : Nat × LS := uintR 3600000 (tq5 bs).2
@[reducible] def tq7 (bs : List Nat) : Nat × LS := uintR 1000000000 (tq6 bs).2
@[reducible] def tq8 (bs : List Nat) : Nat × LS := uintR 60 (tq7 bs).2
/-- The terms that bytes say. -/
def paT (bs : List Nat) : Tm := ⟨((tq1 bs).1 : Nat), ((tq2 bs).1 : Nat), ((tq3 bs).1 : Nat), ((tq4 bs).1 : Nat), ((tq5 bs).1 : Nat), ((tq6 bs).1 : Nat), ((tq7 bs).1 : Nat), ((tq8 bs).1 : Nat)⟩
def paEnd (bs : List Nat) : Bool := endOk (tq8 bs).2
theorem tq1_le (bs : List Nat) : (tq1 bs).1 ≤ 2 := uintR_le _ _
theorem tq1_in {bs : List Nat} (h : byteIn bs) : byteIn (tq1 bs).2.p := uintR_in (s := ⟨bs, false⟩) h
theorem tq2_le (bs : List Nat) : (tq2 bs).1 ≤ 1000000000000 := uintR_le _ _
theorem tq2_in {bs : List Nat} (h : byteIn bs) : byteIn (tq2 bs).2.p := uintR_in (s := (tq1 bs).2) (tq1_in h)
theorem tq3_le (bs : List Nat) : (tq3 bs).1 ≤ 1000000 := uintR_le _ _
theorem tq3_in {bs : List Nat} (h : byteIn bs) : byteIn (tq3 bs).2.p := uintR_in (s := (tq2 bs).2) (tq2_in h)
theorem tq4_le (bs : List Nat) : (tq4 bs).1 ≤ 2 := uintR_le _ _
theorem tq4_in {bs : List Nat} (h : byteIn bs) : byteIn (tq4 bs).2.p := uintR_in (s := (tq3 bs).2) (tq3_in h)
theorem tq5_le (bs : List Nat) : (tq5 bs).1 ≤ 480 := uintR_le _ _
theorem tq5_in {bs : List Nat} (h : byteIn bs) : byteIn (tq5 bs).2.p := uintR_in (s := (tq4 bs).2) (tq4_in h)
theorem tq6_le (bs : List Nat) : (tq6 bs).1 ≤ 3600000 := uintR_le _ _
theorem tq6_in {bs : List Nat} (h : byteIn bs) : byteIn (tq6 bs).2.p := uintR_in (s := (tq5 bs).2) (tq5_in h)
theorem tq7_le (bs : List Nat) : (tq7 bs).1 ≤ 1000000000 := uintR_le _ _
theorem tq7_in {bs : List Nat} (h : byteIn bs) : byteIn (tq7 bs).2.p := uintR_in (s := (tq6 bs).2) (tq6_in h)
theorem tq8_le (bs : List Nat) : (tq8 bs).1 ≤ 60 := uintR_le _ _
theorem tq8_in {bs : List Nat} (h : byteIn bs) : byteIn (tq8 bs).2.p := uintR_in (s := (tq7 bs).2) (tq7_in h)
theorem paT_in (bs : List Nat) : TmIn (paT bs) := by
  have h1 := tq1_le bs
  have h2 := tq2_le bs
  have h3 := tq3_le bs
  have h4 := tq4_le bs
  have h5 := tq5_le bs
  have h6 := tq6_le bs
  have h7 := tq7_le bs
  have h8 := tq8_le bs
  refine ⟨⟨by show (0 : Int) ≤ ((tq1 bs).1 : Nat); omega, by show (((tq1 bs).1 : Nat) : Int) ≤ (255 : Int); omega⟩, ⟨by show (-9223372036854775808 : Int) ≤ ((tq2 bs).1 : Nat); omega, by show (((tq2 bs).1 : Nat) : Int) ≤ (9223372036854775807 : Int); omega⟩, ⟨by show (0 : Int) ≤ ((tq3 bs).1 : Nat); omega, by show (((tq3 bs).1 : Nat) : Int) ≤ (4294967295 : Int); omega⟩, ⟨by show (0 : Int) ≤ ((tq4 bs).1 : Nat); omega, by show (((tq4 bs).1 : Nat) : Int) ≤ (255 : Int); omega⟩, ⟨by show (-9223372036854775808 : Int) ≤ ((tq5 bs).1 : Nat); omega, by show (((tq5 bs).1 : Nat) : Int) ≤ (9223372036854775807 : Int); omega⟩, ⟨by show (-2147483648 : Int) ≤ ((tq6 bs).1 : Nat); omega, by show (((tq6 bs).1 : Nat) : Int) ≤ (2147483647 : Int); omega⟩, ⟨by show (-9223372036854775808 : Int) ≤ ((tq7 bs).1 : Nat); omega, by show (((tq7 bs).1 : Nat) : Int) ≤ (9223372036854775807 : Int); omega⟩, ⟨by show (-9223372036854775808 : Int) ≤ ((tq8 bs).1 : Nat); omega, by show (((tq8 bs).1 : Nat) : Int) ≤ (9223372036854775807 : Int); omega⟩⟩
theorem paT_fit (bs : List Nat) : TmFit (paT bs) := by
  have h1 := tq1_le bs
  have h2 := tq2_le bs
  have h3 := tq3_le bs
  have h4 := tq4_le bs
  have h5 := tq5_le bs
  have h6 := tq6_le bs
  have h7 := tq7_le bs
  have h8 := tq8_le bs
  exact ⟨⟨Int.natCast_nonneg _, by show (((tq1 bs).1 : Nat) : Int) < 18446744073709551616; omega⟩, ⟨Int.natCast_nonneg _, by show (((tq2 bs).1 : Nat) : Int) < 18446744073709551616; omega⟩, ⟨Int.natCast_nonneg _, by show (((tq3 bs).1 : Nat) : Int) < 18446744073709551616; omega⟩, ⟨Int.natCast_nonneg _, by show (((tq4 bs).1 : Nat) : Int) < 18446744073709551616; omega⟩, ⟨Int.natCast_nonneg _, by show (((tq5 bs).1 : Nat) : Int) < 18446744073709551616; omega⟩, ⟨Int.natCast_nonneg _, by show (((tq6 bs).1 : Nat) : Int) < 18446744073709551616; omega⟩, ⟨Int.natCast_nonneg _, by show (((tq7 bs).1 : Nat) : Int) < 18446744073709551616; omega⟩, ⟨Int.natCast_nonneg _, by show (((tq8 bs).1 : Nat) : Int) < 18446744073709551616; omega⟩⟩
theorem tmBytes_r (t : Tm) : tmBytes t = numB t.kind.toNat 0 ++ (numB t.prin.toNat 0 ++ (numB t.parts.toNat 0 ++ (numB t.basis.toNat 0 ++ (numB t.months.toNat 0 ++ (numB t.start.toNat 0 ++ (numB t.fee.toNat 0 ++ (numB t.grace.toNat 0 ++ []))))))) := by
  unfold tmBytes
  simp only [List.append_assoc, List.append_nil]
theorem pa_tm {t : Tm} (ok : TmOk t) (hin : TmIn t) : paT (tmBytes t) = t ∧ paEnd (tmBytes t) = true := by
  have b1 := ok.prin
  have b2 := ok.months
  have b3 := ok.start
  have b4 := ok.fee
  have b5 := ok.grace
  have b6 : 0 ≤ t.parts := hin.parts.1
  have b7 := ok.parts
  have b8 : 0 ≤ t.kind ∧ t.kind ≤ 2 := by rcases ok.kind with h | h <;> omega
  have b9 : 0 ≤ t.basis ∧ t.basis ≤ 2 := by rcases ok.basis with h | h <;> omega
  have e1 : tq1 (tmBytes t) = (t.kind.toNat, ⟨numB t.prin.toNat 0 ++ (numB t.parts.toNat 0 ++ (numB t.basis.toNat 0 ++ (numB t.months.toNat 0 ++ (numB t.start.toNat 0 ++ (numB t.fee.toNat 0 ++ (numB t.grace.toNat 0 ++ [])))))), false⟩) := by
    unfold tq1
    rw [tmBytes_r]
    exact uintR_numB (by omega) (by omega)
  have e2 : tq2 (tmBytes t) = (t.prin.toNat, ⟨numB t.parts.toNat 0 ++ (numB t.basis.toNat 0 ++ (numB t.months.toNat 0 ++ (numB t.start.toNat 0 ++ (numB t.fee.toNat 0 ++ (numB t.grace.toNat 0 ++ []))))), false⟩) := by
    unfold tq2
    rw [e1]
    exact uintR_numB (by omega) (by omega)
  have e3 : tq3 (tmBytes t) = (t.parts.toNat, ⟨numB t.basis.toNat 0 ++ (numB t.months.toNat 0 ++ (numB t.start.toNat 0 ++ (numB t.fee.toNat 0 ++ (numB t.grace.toNat 0 ++ [])))), false⟩) := by
    unfold tq3
    rw [e2]
    exact uintR_numB (by omega) (by omega)
  have e4 : tq4 (tmBytes t) = (t.basis.toNat, ⟨numB t.months.toNat 0 ++ (numB t.start.toNat 0 ++ (numB t.fee.toNat 0 ++ (numB t.grace.toNat 0 ++ []))), false⟩) := by
    unfold tq4
    rw [e3]
    exact uintR_numB (by omega) (by omega)
  have e5 : tq5 (tmBytes t) = (t.months.toNat, ⟨numB t.start.toNat 0 ++ (numB t.fee.toNat 0 ++ (numB t.grace.toNat 0 ++ [])), false⟩) := by
    unfold tq5
    rw [e4]
    exact uintR_numB (by omega) (by omega)
  have e6 : tq6 (tmBytes t) = (t.start.toNat, ⟨numB t.fee.toNat 0 ++ (numB t.grace.toNat 0 ++ []), false⟩) := by
    unfold tq6
    rw [e5]
    exact uintR_numB (by omega) (by omega)
  have e7 : tq7 (tmBytes t) = (t.fee.toNat, ⟨numB t.grace.toNat 0 ++ [], false⟩) := by
    unfold tq7
    rw [e6]
    exact uintR_numB (by omega) (by omega)
  have e8 : tq8 (tmBytes t) = (t.grace.toNat, ⟨[], false⟩) := by
    unfold tq8
    rw [e7]
    exact uintR_numB (by omega) (by omega)
  refine ⟨?_, ?_⟩
  · unfold paT
    rw [e1, e2, e3, e4, e5, e6, e7, e8]
    cases t
    simp only [Tm.mk.injEq]
    simp only at b1 b2 b3 b4 b5 b6 b7 b8 b9
    exact ⟨by omega, by omega, by omega, by omega, by omega, by omega, by omega, by omega⟩
  · unfold paEnd
    rw [e8]
    rfl
theorem pa_eq {bs : List Nat} (hb : byteIn bs) (h : paEnd bs = true) : bs = tmBytes (paT bs) := by
  unfold paEnd endOk at h
  rw [Bool.and_eq_true] at h
  have h8 : (tq8 bs).2.bad = false := by simpa using h.1
  have hp : (tq8 bs).2.p = [] := List.length_eq_zero_iff.1 (by simpa using h.2)
  obtain ⟨h7, c8⟩ := uintR_eq (tq7_in hb) h8
  obtain ⟨h6, c7⟩ := uintR_eq (tq6_in hb) h7
  obtain ⟨h5, c6⟩ := uintR_eq (tq5_in hb) h6
  obtain ⟨h4, c5⟩ := uintR_eq (tq4_in hb) h5
  obtain ⟨h3, c4⟩ := uintR_eq (tq3_in hb) h4
  obtain ⟨h2, c3⟩ := uintR_eq (tq2_in hb) h3
  obtain ⟨h1, c2⟩ := uintR_eq (tq1_in hb) h2
  obtain ⟨_, c1⟩ := uintR_eq (t := ⟨bs, false⟩) hb h1
  have c1 : bs = numB (tq1 bs).1 0 ++ (tq1 bs).2.p := c1
  have c2 : (tq1 bs).2.p = numB (tq2 bs).1 0 ++ (tq2 bs).2.p := c2
  have c3 : (tq2 bs).2.p = numB (tq3 bs).1 0 ++ (tq3 bs).2.p := c3
  have c4 : (tq3 bs).2.p = numB (tq4 bs).1 0 ++ (tq4 bs).2.p := c4
  have c5 : (tq4 bs).2.p = numB (tq5 bs).1 0 ++ (tq5 bs).2.p := c5
  have c6 : (tq5 bs).2.p = numB (tq6 bs).1 0 ++ (tq6 bs).2.p := c6
  have c7 : (tq6 bs).2.p = numB (tq7 bs).1 0 ++ (tq7 bs).2.p := c7
  have c8 : (tq7 bs).2.p = numB (tq8 bs).1 0 ++ (tq8 bs).2.p := c8
  rw [tmBytes_r]
  show bs = numB (((tq1 bs).1 : Nat) : Int).toNat 0 ++ (numB (((tq2 bs).1 : Nat) : Int).toNat 0 ++ (numB (((tq3 bs).1 : Nat) : Int).toNat 0 ++ (numB (((tq4 bs).1 : Nat) : Int).toNat 0 ++ (numB (((tq5 bs).1 : Nat) : Int).toNat 0 ++ (numB (((tq6 bs).1 : Nat) : Int).toNat 0 ++ (numB (((tq7 bs).1 : Nat) : Int).toNat 0 ++ (numB (((tq8 bs).1 : Nat) : Int).toNat 0 ++ [])))))))
  simp only [Int.toNat_natCast]
  rw [← hp, ← c8, ← c7, ← c6, ← c5, ← c4, ← c3, ← c2, ← c1]
/-- What a reader of bytes says. -/
def TmPa (bs : List Nat) (a : Tm × Er) : Prop :=
  (a.2 = none ∧ a.1 = paT bs ∧ paEnd bs = true ∧ tmB (paT bs) = true) ∨ (a.2 = erN 2 ∧ a.1 = tm0 ∧ (paEnd bs && tmB (paT bs)) = false)
set_option maxHeartbeats 4000000 in
set_option maxRecDepth 20000 in
theorem tmParse (A : Option Addr) (n c : Nat) (bs : List Nat) (hn : bs.length ≤ 1000000) (hp : byteIn bs) (w : World) (M I : BS) (H : Hp ⟨w, M, I⟩ [] [Sl byteR (.slice A n c) bs] w) :
    Ctr Tryz.prog 39 [.slice A n c] w M I teV (TmPa bs) (fun _ => []) (fun _ => []) := by
  have h1 := tq1_le bs
  have b1 := tq1_in hp
  have h2 := tq2_le bs
  have b2 := tq2_in hp
  have h3 := tq3_le bs
  have b3 := tq3_in hp
  have h4 := tq4_le bs
  have b4 := tq4_in hp
  have h5 := tq5_le bs
  have b5 := tq5_in hp
  have h6 := tq6_le bs
  have b6 := tq6_in hp
  have h7 := tq7_le bs
  have b7 := tq7_in hp
  have h8 := tq8_le bs
  have b8 := tq8_in hp
  have e1 : IntKind.u8.wrap (((tq1 bs).1 : Nat) : Int) = ((tq1 bs).1 : Nat) := wrap_id (paT_in bs).kind
  have e2 : IntKind.i64.wrap (((tq2 bs).1 : Nat) : Int) = ((tq2 bs).1 : Nat) := wrap_id (paT_in bs).prin
  have e3 : IntKind.u32.wrap (((tq3 bs).1 : Nat) : Int) = ((tq3 bs).1 : Nat) := wrap_id (paT_in bs).parts
  have e4 : IntKind.u8.wrap (((tq4 bs).1 : Nat) : Int) = ((tq4 bs).1 : Nat) := wrap_id (paT_in bs).basis
  have e5 : IntKind.i64.wrap (((tq5 bs).1 : Nat) : Int) = ((tq5 bs).1 : Nat) := wrap_id (paT_in bs).months
  have e6 : IntKind.i32.wrap (((tq6 bs).1 : Nat) : Int) = ((tq6 bs).1 : Nat) := wrap_id (paT_in bs).start
  have e7 : IntKind.i64.wrap (((tq7 bs).1 : Nat) : Int) = ((tq7 bs).1 : Nat) := wrap_id (paT_in bs).fee
  have e8 : IntKind.i64.wrap (((tq8 bs).1 : Nat) : Int) = ((tq8 bs).1 : Nat) := wrap_id (paT_in bs).grace
  refine Exe.of_ev tok Tryz.call39 Tryz.func39 rfl rfl rfl ?_
  refine alloc_as tok H (tmC tm0) rfl rfl rfl fun r w1 H1 => ?_
  refine call_rule H1 (fun M I h0 h => look A n c bs hn _ M I h) fun a w2 _ H2 => ?_
  refine call_rule H2 (fun M I _ h => uintL a.1 a.2 ⟨bs, false⟩ 2 hp _ M I h) fun s1 w3 _ H3 => ?_
  refine call_rule H3 (fun M I _ h => uintL a.1 s1 (tq1 bs).2 1000000000000 b1 _ M I h) fun s2 w4 _ H4 => ?_
  refine alloc_as tok H4 (tmC tm0) rfl rfl rfl fun e w5 H5 => ?_
  refine store_as tok H5 [.int .u8 (IntKind.u8.wrap (((tq1 bs).1 : Nat) : Int)), .int .i64 (IntKind.i64.wrap (((tq2 bs).1 : Nat) : Int)), .int .u32 0, .int .u8 0, .int .i64 0, .int .i32 0, .int .i64 0, .int .i64 0] rfl rfl rfl rfl rfl fun w6 H6 => ?_
  refine call_rule H6 (fun M I _ h => uintL a.1 s2 (tq2 bs).2 1000000 b2 _ M I h) fun s3 w7 _ H7 => ?_
  refine call_rule H7 (fun M I _ h => uintL a.1 s3 (tq3 bs).2 2 b3 _ M I h) fun s4 w8 _ H8 => ?_
  refine store_as tok H8 [.int .u8 (IntKind.u8.wrap (((tq1 bs).1 : Nat) : Int)), .int .i64 (IntKind.i64.wrap (((tq2 bs).1 : Nat) : Int)), .int .u32 (IntKind.u32.wrap (((tq3 bs).1 : Nat) : Int)), .int .u8 (IntKind.u8.wrap (((tq4 bs).1 : Nat) : Int)), .int .i64 0, .int .i32 0, .int .i64 0, .int .i64 0] rfl rfl rfl rfl rfl fun w9 H9 => ?_
  refine call_rule H9 (fun M I _ h => uintL a.1 s4 (tq4 bs).2 480 b4 _ M I h) fun s5 w10 _ H10 => ?_
  refine call_rule H10 (fun M I _ h => uintL a.1 s5 (tq5 bs).2 3600000 b5 _ M I h) fun s6 w11 _ H11 => ?_
  refine store_as tok H11 [.int .u8 (IntKind.u8.wrap (((tq1 bs).1 : Nat) : Int)), .int .i64 (IntKind.i64.wrap (((tq2 bs).1 : Nat) : Int)), .int .u32 (IntKind.u32.wrap (((tq3 bs).1 : Nat) : Int)), .int .u8 (IntKind.u8.wrap (((tq4 bs).1 : Nat) : Int)), .int .i64 (IntKind.i64.wrap (((tq5 bs).1 : Nat) : Int)), .int .i32 0, .int .i64 0, .int .i64 0] rfl rfl rfl rfl rfl fun w12 H12 => ?_
  refine store_as tok H12 [.int .u8 (IntKind.u8.wrap (((tq1 bs).1 : Nat) : Int)), .int .i64 (IntKind.i64.wrap (((tq2 bs).1 : Nat) : Int)), .int .u32 (IntKind.u32.wrap (((tq3 bs).1 : Nat) : Int)), .int .u8 (IntKind.u8.wrap (((tq4 bs).1 : Nat) : Int)), .int .i64 (IntKind.i64.wrap (((tq5 bs).1 : Nat) : Int)), .int .i32 (IntKind.i32.wrap (((tq6 bs).1 : Nat) : Int)), .int .i64 0, .int .i64 0] rfl rfl rfl rfl rfl fun w13 H13 => ?_
  refine call_rule H13 (fun M I _ h => uintL a.1 s6 (tq6 bs).2 1000000000 b6 _ M I h) fun s7 w14 _ H14 => ?_
  refine call_rule H14 (fun M I _ h => uintL a.1 s7 (tq7 bs).2 60 b7 _ M I h) fun s8 w15 _ H15 => ?_
  refine store_as tok H15 [.int .u8 (IntKind.u8.wrap (((tq1 bs).1 : Nat) : Int)), .int .i64 (IntKind.i64.wrap (((tq2 bs).1 : Nat) : Int)), .int .u32 (IntKind.u32.wrap (((tq3 bs).1 : Nat) : Int)), .int .u8 (IntKind.u8.wrap (((tq4 bs).1 : Nat) : Int)), .int .i64 (IntKind.i64.wrap (((tq5 bs).1 : Nat) : Int)), .int .i32 (IntKind.i32.wrap (((tq6 bs).1 : Nat) : Int)), .int .i64 (IntKind.i64.wrap (((tq7 bs).1 : Nat) : Int)), .int .i64 0] rfl rfl rfl rfl rfl fun w16 H16 => ?_
  refine store_as tok H16 [.int .u8 (IntKind.u8.wrap (((tq1 bs).1 : Nat) : Int)), .int .i64 (IntKind.i64.wrap (((tq2 bs).1 : Nat) : Int)), .int .u32 (IntKind.u32.wrap (((tq3 bs).1 : Nat) : Int)), .int .u8 (IntKind.u8.wrap (((tq4 bs).1 : Nat) : Int)), .int .i64 (IntKind.i64.wrap (((tq5 bs).1 : Nat) : Int)), .int .i32 (IntKind.i32.wrap (((tq6 bs).1 : Nat) : Int)), .int .i64 (IntKind.i64.wrap (((tq7 bs).1 : Nat) : Int)), .int .i64 (IntKind.i64.wrap (((tq8 bs).1 : Nat) : Int))] rfl rfl rfl rfl rfl fun w17 H17 => ?_
  have ek : [.int .u8 (IntKind.u8.wrap (((tq1 bs).1 : Nat) : Int)), .int .i64 (IntKind.i64.wrap (((tq2 bs).1 : Nat) : Int)), .int .u32 (IntKind.u32.wrap (((tq3 bs).1 : Nat) : Int)), .int .u8 (IntKind.u8.wrap (((tq4 bs).1 : Nat) : Int)), .int .i64 (IntKind.i64.wrap (((tq5 bs).1 : Nat) : Int)), .int .i32 (IntKind.i32.wrap (((tq6 bs).1 : Nat) : Int)), .int .i64 (IntKind.i64.wrap (((tq7 bs).1 : Nat) : Int)), .int .i64 (IntKind.i64.wrap (((tq8 bs).1 : Nat) : Int))] = tmC (paT bs) := by
    rw [e1, e2, e3, e4, e5, e6, e7, e8]; rfl
  rw [ek] at H17
  refine Or.elim (show paEnd bs = true ∨ paEnd bs = false by cases paEnd bs <;> simp) (fun he => ?_) (fun he => ?_)
  · have ee : (if endOk (tq8 bs).2 = true then Value.nilIface else .iface 55 (.int .i64 2)) = .nilIface := if_pos he
    refine call_rule H17 (fun M I _ h => ee ▸ endL a.1 s8 (tq8 bs).2 _ M I h) fun _ wa _ Ha => ?_
    refine load_rule tok Ha (v := tmV (paT bs)) rfl ?_
    refine call_rule Ha (fun M I _ h => termsRight (paT bs) _ M I h) fun _ wb _ Hb => ?_
    refine br (fun q => ?_) (fun q => ?_)
    · have q : tmB (paT bs) = false := by have q : (!tmB (paT bs)) = true := q; simpa using q
      refine store_as tok Hb (tmC tm0) rfl rfl rfl rfl rfl fun wc Hc => ?_
      refine Exists.intro ⟨r, 0, none⟩ (Exists.intro (tmV tm0) (And.intro rfl (And.intro (Hp.ld (T := tb) tok Hc rfl) ?_)))
      exact Exists.intro (tm0, erN 2) (And.intro rfl (And.intro (.inr ⟨rfl, rfl, by rw [q, Bool.and_false]⟩) (Hp.keep Hc)))
    · have q : tmB (paT bs) = true := by have q : (!tmB (paT bs)) = false := q; simpa using q
      refine load_rule tok Hb (v := tmV (paT bs)) rfl ?_
      refine store_as tok Hb (tmC (paT bs)) rfl rfl rfl rfl rfl fun wc Hc => ?_
      refine Exists.intro ⟨r, 0, none⟩ (Exists.intro (tmV (paT bs)) (And.intro rfl (And.intro (Hp.ld (T := tb) tok Hc rfl) ?_)))
      exact Exists.intro (paT bs, none) (And.intro rfl (And.intro (.inl ⟨rfl, rfl, he, q⟩) (Hp.keep Hc)))
  · have ee : (if endOk (tq8 bs).2 = true then Value.nilIface else .iface 55 (.int .i64 2)) = .iface 55 (.int .i64 2) := if_neg (by have he : endOk (tq8 bs).2 = false := he; rw [he]; simp)
    refine call_rule H17 (fun M I _ h => ee ▸ endL a.1 s8 (tq8 bs).2 _ M I h) fun _ wa _ Ha => ?_
    refine store_as tok Ha (tmC tm0) rfl rfl rfl rfl rfl fun wc Hc => ?_
    refine Exists.intro ⟨r, 0, none⟩ (Exists.intro (tmV tm0) (And.intro rfl (And.intro (Hp.ld (T := tb) tok Hc rfl) ?_)))
    exact Exists.intro (tm0, erN 2) (And.intro rfl (And.intro (.inr ⟨rfl, rfl, by rw [he, Bool.false_and]⟩) (Hp.keep Hc)))
end Go.Proofs.YtgbmambkgcjhfaaGreatDoor
