/- 128 bits by 64: the walk. -/
import Derived.Test.YtjlfjjgjghdokaaGreatDoorLy9
set_option linter.unusedVariables false
namespace Go.Proofs.YtjlfjjgjghdokaaGreatDoor
open Go Go.Proofs Go.Wk
theorem u64w (x : Int) : IntKind.u64.wrap x = x % 18446744073709551616 := by simp [IntKind.wrap, IntKind.signed, IntKind.bits]
theorem u64n {x : Nat} (h : x < 18446744073709551616) : IntKind.u64.wrap (x : Int) = x := by rw [u64w]; omega
theorem shl64 (x s : Nat) (hs : s ≤ 64) : IntKind.u64.wrap ((x : Int) * 2 ^ min ((s : Int)).toNat IntKind.u64.bits) = ((x * 2 ^ s % 18446744073709551616 : Nat) : Int) := by
  rw [Int.toNat_natCast, Nat.min_eq_left (by show s ≤ 64; omega), u64w]
  have : ((2 : Int) ^ s) = ((2 ^ s : Nat) : Int) := by simp
  rw [this, ← Int.natCast_mul]
  omega
theorem low32 (x : Nat) (h : x < 18446744073709551616) : IntKind.u64.wrap (BitVec.ofInt IntKind.u64.bits (x : Int) &&& BitVec.ofInt IntKind.u64.bits 4294967295).toNat = ((x % 4294967296 : Nat) : Int) := by
  have h1 : (BitVec.ofNat 64 x &&& BitVec.ofNat 64 4294967295).toNat = x % 4294967296 := by
    rw [BitVec.toNat_and, BitVec.toNat_ofNat, BitVec.toNat_ofNat, Nat.mod_eq_of_lt h]
    exact Nat.and_two_pow_sub_one_eq_mod x 32
  have h2 : (BitVec.ofInt IntKind.u64.bits (x : Int) &&& BitVec.ofInt IntKind.u64.bits 4294967295).toNat = x % 4294967296 := h1
  rw [h2, u64n (by omega)]
theorem or_high (a s b : Nat) (h : a * 2 ^ s + b < 18446744073709551616) (hb : b < 2 ^ s) : IntKind.u64.wrap (BitVec.ofInt IntKind.u64.bits ((a * 2 ^ s : Nat) : Int) ||| BitVec.ofInt IntKind.u64.bits (b : Int)).toNat = ((a * 2 ^ s + b : Nat) : Int) := by
  have h1 : (BitVec.ofNat 64 (a * 2 ^ s) ||| BitVec.ofNat 64 b).toNat = a * 2 ^ s + b := by
    rw [BitVec.toNat_or, BitVec.toNat_ofNat, BitVec.toNat_ofNat, Nat.mod_eq_of_lt (by omega), Nat.mod_eq_of_lt (by omega)]
    have := Nat.shiftLeft_add_eq_or_of_lt (i := s) (b := b) hb a
    rw [Nat.shiftLeft_eq] at this
    exact this.symm
  have h2 : (BitVec.ofInt IntKind.u64.bits ((a * 2 ^ s : Nat) : Int) ||| BitVec.ofInt IntKind.u64.bits (b : Int)).toNat = a * 2 ^ s + b := h1
  rw [h2, u64n h]
theorem leading (y : Nat) (h : y < 18446744073709551616) : CB 274 [.int .u64 y] (.int .i64 (64 - (Lib.bitLen y : Int))) := fun w M I H =>
  Ctr.of_below H Tryz.call274 ((Tryz.bits_LeadingZeros64 (y : Int) w (by omega) (by omega)).mono fun e w' h => ⟨(), by rw [h.1, Int.toNat_natCast], trivial, by rw [h.2]; exact Go.RowKit.Below.refl _ _⟩)
theorem tdiv_nat (a b : Nat) : ((a : Int)).tdiv b = ((a / b : Nat) : Int) := rfl
theorem tmod_nat (a b : Nat) : ((a : Int)).tmod b = ((a % b : Nat) : Int) := rfl
/-- The pieces of the dividend, shifted. -/
structure Cut (hi lo y s : Nat) (yn u n1 n0 : Nat) : Prop where
  yn1 : 9223372036854775808 ≤ yn
  yn2 : yn < 18446744073709551616
  yne : yn = y * 2 ^ s
  u1 : u < yn
  n1b : n1 < 4294967296
  n0b : n0 < 4294967296
  all : (hi * 18446744073709551616 + lo) * 2 ^ s = (u * 4294967296 + n1) * 4294967296 + n0
theorem cut_ok {hi lo y : Nat} (h1 : hi < y) (h2 : lo < 18446744073709551616) (h3 : y < 18446744073709551616) {s : Nat} (hs : s = 64 - Lib.bitLen y) :
    Cut hi lo y s (y * 2 ^ s) (hi * 2 ^ s + lo / 2 ^ (64 - s)) (lo * 2 ^ s % 18446744073709551616 / 4294967296) (lo * 2 ^ s % 18446744073709551616 % 4294967296) := by
  have hn := norm_ok (y := y) (by omega) h3
  rw [← hs] at hn
  have hs64 : s ≤ 64 := by omega
  have hsp : 2 ^ s * 2 ^ (64 - s) = 18446744073709551616 := by rw [← Nat.pow_add, show s + (64 - s) = 64 by omega]
  have hp : 0 < 2 ^ (64 - s) := Nat.pow_pos (by omega)
  have hp2 : 0 < 2 ^ s := Nat.pow_pos (by omega)
  have hlo : lo / 2 ^ (64 - s) < 2 ^ s := by rw [Nat.div_lt_iff_lt_mul hp, hsp]; exact h2
  have hm : (hi + 1) * 2 ^ s ≤ y * 2 ^ s := Nat.mul_le_mul_right _ h1
  rw [Nat.add_mul, Nat.one_mul] at hm
  have hsplit : lo * 2 ^ s = lo / 2 ^ (64 - s) * 18446744073709551616 + lo * 2 ^ s % 18446744073709551616 := by
    have h4 : lo * 2 ^ s / 18446744073709551616 = lo / 2 ^ (64 - s) := by
      rw [← hsp, Nat.mul_comm (2 ^ s), Nat.mul_div_mul_right _ _ hp2]
    have h5 := Nat.div_add_mod (lo * 2 ^ s) 18446744073709551616
    rw [h4] at h5
    omega
  refine ⟨hn.1, hn.2, rfl, by omega, by omega, by omega, ?_⟩
  have e1 : (hi * 18446744073709551616 + lo) * 2 ^ s = hi * 2 ^ s * 18446744073709551616 + lo * 2 ^ s := by
    rw [Nat.add_mul, Nat.mul_right_comm]
  rw [e1, hsplit]
  have h6 := Nat.mod_lt (lo * 2 ^ s) (show 18446744073709551616 > 0 by omega)
  omega
theorem digits2 {hi lo y s yn u n1 n0 : Nat} (c : Cut hi lo y s yn u n1 n0) : (hi * 18446744073709551616 + lo) / y = (u * 4294967296 + n1) / yn * 4294967296 + ((u * 4294967296 + n1) % yn * 4294967296 + n0) / yn ∧
    (hi * 18446744073709551616 + lo) % y = ((u * 4294967296 + n1) % yn * 4294967296 + n0) % yn / 2 ^ s := by
  have hp2 : 0 < 2 ^ s := Nat.pow_pos (by omega)
  have hyn : 0 < yn := by have := c.yn1; omega
  have e1 : (hi * 18446744073709551616 + lo) / y = ((u * 4294967296 + n1) * 4294967296 + n0) / yn := by
    rw [← c.all, c.yne, Nat.mul_div_mul_right _ _ hp2]
  have e2 : (hi * 18446744073709551616 + lo) % y = ((u * 4294967296 + n1) * 4294967296 + n0) % yn / 2 ^ s := by
    rw [← c.all, c.yne, Nat.mul_mod_mul_right, Nat.mul_div_cancel _ hp2]
  have hd := Nat.div_add_mod (u * 4294967296 + n1) yn
  have e3 : (u * 4294967296 + n1) * 4294967296 + n0 = ((u * 4294967296 + n1) % yn * 4294967296 + n0) + yn * ((u * 4294967296 + n1) / yn * 4294967296) := by
    rw [← Nat.mul_assoc]; omega
  rw [e1, e2, e3, Nat.add_mul_div_left _ _ hyn, Nat.add_mul_mod_self_left]
  exact ⟨by omega, rfl⟩
theorem khyp {yn u n : Nat} (h1 : 9223372036854775808 ≤ yn) (h2 : yn < 18446744073709551616) (hu : u < yn) (hn : n < 4294967296) :
    KHyp (yn : Int) ((yn / 4294967296 : Nat) : Int) ((yn % 4294967296 : Nat) : Int) (u : Int) (n : Int) (((u * 4294967296 + n) / yn : Nat) : Int) := by
  have hd := Nat.div_add_mod (u * 4294967296 + n) yn
  have hm := Nat.mod_lt (u * 4294967296 + n) (show yn > 0 by omega)
  refine ⟨by omega, by omega, by omega, by omega, by omega, by omega, by omega, by omega, by omega, ?_, ?_⟩
  · rw [← Int.natCast_mul, Nat.mul_comm]; omega
  · rw [Int.add_mul, Int.one_mul, ← Int.natCast_mul, Nat.mul_comm]; omega
theorem and_as {P : Program} {K : Value → World → Prop} {w : World} {t : TypeId} {ox oy : Operand} {k : IntKind} {x y : Int} (v : Int) (hv : k.wrap (BitVec.ofInt k.bits x &&& BitVec.ofInt k.bits y).toNat = v) (h : K (.int k v) w) : BinK P K w .and t ox oy (.int k x) (.int k y) := by
  subst hv; exact and_rule h
theorem q_small {q v0 : Int} (h0 : 0 ≤ q) (h1 : q < 4294967296) (h2 : 0 ≤ v0) (h3 : v0 < 4294967296) : 0 ≤ q * v0 ∧ q * v0 < 18446744073709551616 := by
  have a := Int.mul_nonneg h0 h2
  have b : q * v0 ≤ 4294967295 * v0 := Int.mul_le_mul_of_nonneg_right (by omega) h2
  omega
theorem Q_rem {u n yn : Nat} (h : 0 < yn) : (u : Int) * 4294967296 + (n : Int) - (((u * 4294967296 + n) / yn : Nat) : Int) * (yn : Int) = (((u * 4294967296 + n) % yn : Nat) : Int) := by
  have hd := Nat.div_add_mod (u * 4294967296 + n) yn
  rw [← Int.natCast_mul, Nat.mul_comm]; omega
theorem start_q {U v1 : Int} (h0 : 0 ≤ U) (h1 : 0 ≤ U / v1) (h2 : U / v1 ≤ 4294967297) : IntKind.u64.wrap (U.tdiv v1) = U / v1 := by
  rw [Int.tdiv_eq_ediv_of_nonneg h0, u64w]; omega
theorem start_r {U v1 : Int} (h0 : 0 ≤ U - U / v1 * v1) (h1 : U - U / v1 * v1 < v1) (h2 : v1 < 4294967296) (h3 : U < 18446744073709551616) : IntKind.u64.wrap (U - IntKind.u64.wrap (U / v1 * v1)) = U - U / v1 * v1 := by
  rw [u64w, u64w]; omega
theorem nat_lt64 {x y : Nat} (h : x < y) (h2 : y < 18446744073709551616) : (x : Int) < 18446744073709551616 := by omega
theorem rem_lt64 {x y : Nat} (h : x < y) (h2 : y < 18446744073709551616) {z : Int} (e : z = (x : Int)) : 0 ≤ z ∧ z < 18446744073709551616 := by omega
theorem pos63 {y : Nat} (h : 9223372036854775808 ≤ y) : 0 < y := by omega
theorem ne31 {v : Int} (h : 2147483648 ≤ v) : v ≠ 0 := by omega
theorem two_digits {a b : Nat} (h0 : (0 : Int) ≤ a) (h1 : (a : Int) < 4294967296) (h2 : (0 : Int) ≤ b) (h3 : (b : Int) < 4294967296) : IntKind.u64.wrap (IntKind.u64.wrap ((a : Int) * 4294967296) + (b : Int)) = ((a * 4294967296 + b : Nat) : Int) := by
  rw [u64w, u64w]; omega
theorem mulsub {u v q n : Int} (h0 : 0 ≤ u * 4294967296 + n - q * v) (h1 : u * 4294967296 + n - q * v < 18446744073709551616) : IntKind.u64.wrap (IntKind.u64.wrap (IntKind.u64.wrap (u * 4294967296) + n) - IntKind.u64.wrap (q * v)) = u * 4294967296 + n - q * v := by
  rw [u64w, u64w, u64w, u64w]; omega
set_option maxRecDepth 20000 in
set_option maxHeartbeats 4000000 in
theorem div64 (hi lo y : Nat) (h1 : hi < y) (h2 : lo < 18446744073709551616) (h3 : y < 18446744073709551616) :
    CB 249 [.int .u64 hi, .int .u64 lo, .int .u64 y] (.tuple #[.int .u64 (((hi * 18446744073709551616 + lo) / y : Nat) : Int), .int .u64 (((hi * 18446744073709551616 + lo) % y : Nat) : Int)]) := by
  intro w M I H
  refine Exe.of_ev tok Tryz.call249 Tryz.func249 rfl rfl rfl ?_
  refine br (fun q => ?_) (fun _ => ?_)
  · exfalso; have q : ((y : Int) == 0) = true := q; simp at q; omega
  refine brd (fun q => by omega) (fun _ => ?_)
  refine br (fun q => ?_) (fun q => ?_)
  · have q : ((hi : Int) == 0) = true := q
    have q : hi = 0 := by simpa using q
    subst q
    rw [Nat.zero_mul, Nat.zero_add]
    refine draw_rule (A := []) tok tdr H [0, 1, 2, 3, 4, 5, 6, 7] [0, 0, 3, 0, 0, 24, 7, 127] rfl ?_
    refine pass_rule _ (fun w h => quo_as ((lo / y : Nat) : Int) (by omega) (by rw [tdiv_nat, u64n (by have := Nat.div_le_self lo y; omega)]) ⟨rfl, rfl⟩) ?_
    refine pass_rule _ (fun w h => rem_as ((lo % y : Nat) : Int) (by omega) (tmod_nat lo y) ⟨rfl, rfl⟩) ?_
    refine done_rule fun w2 H2 => ?_
    exact Exists.intro () (And.intro rfl (And.intro trivial (Hp.keep H2)))
  have hy0 : 0 < y := by omega
  have hbl := bitLen_ok hy0 h3
  have hs : ∃ s, s = 64 - Lib.bitLen y := ⟨_, rfl⟩
  refine Exists.elim hs fun s hs => ?_
  have hc := cut_ok h1 h2 h3 hs
  have hp64 : 0 < 2 ^ (64 - s) := Nat.pow_pos (by omega)
  have hsp : 2 ^ s * 2 ^ (64 - s) = 18446744073709551616 := by rw [← Nat.pow_add, show s + (64 - s) = 64 by omega]
  have hlos : lo / 2 ^ (64 - s) < 2 ^ s := by rw [Nat.div_lt_iff_lt_mul hp64, hsp]; exact h2
  have hor : hi * 2 ^ s + lo / 2 ^ (64 - s) < 18446744073709551616 → IntKind.u64.wrap (BitVec.ofInt IntKind.u64.bits ((hi * 2 ^ s : Nat) : Int) ||| BitVec.ofInt IntKind.u64.bits ((lo / 2 ^ (64 - s) : Nat) : Int)).toNat = ((hi * 2 ^ s + lo / 2 ^ (64 - s) : Nat) : Int) := fun h => or_high hi s _ h hlos
  have sh1 := shl64 y s (by omega)
  have sh2 := shl64 hi s (by omega)
  have sh3 := shl64 lo s (by omega)
  have sh4 : ((lo : Int)).fdiv (2 ^ min (((64 - s : Nat) : Int)).toNat IntKind.u64.bits) = ((lo / 2 ^ (64 - s) : Nat) : Int) := shr_div (x := lo) (s := 64 - s) (k := .u64) (by show 64 - s ≤ 64; omega)
  have hes : IntKind.u64.wrap (64 - (Lib.bitLen y : Int)) = (s : Int) := by rw [u64w]; omega
  have h64 : IntKind.u64.wrap (64 - IntKind.u64.wrap (64 - (Lib.bitLen y : Int))) = ((64 - s : Nat) : Int) := by rw [hes, u64w]; omega
  refine call_rule H (fun M I _ h => leading y h3 _ M I h) fun _ w1 _ H1 => ?_
  refine Exists.elim (⟨_, rfl⟩ : ∃ yn, yn = y * 2 ^ s) fun yn hyn => ?_
  refine Exists.elim (⟨_, rfl⟩ : ∃ a, a = hi * 2 ^ s) fun a ha => ?_
  refine Exists.elim (⟨_, rfl⟩ : ∃ b, b = lo / 2 ^ (64 - s)) fun b hb0 => ?_
  refine Exists.elim (⟨_, rfl⟩ : ∃ z, z = lo * 2 ^ s % 18446744073709551616) fun z hz => ?_
  rw [← hyn, ← ha, ← hb0, ← hz] at hc
  rw [← ha, ← hb0] at hor
  rw [← hyn] at sh1
  rw [← ha] at sh2
  rw [← hz] at sh3
  rw [← hb0] at sh4
  have hzb : z < 18446744073709551616 := by rw [hz]; exact Nat.mod_lt _ (by decide)
  have hyn1 := hc.yn1
  have hyn2 := hc.yn2
  have hu := hc.u1
  rw [Nat.mod_eq_of_lt hyn2] at sh1
  rw [Nat.mod_eq_of_lt (by omega)] at sh2
  have hor := hor (by omega)
  refine Exists.elim (⟨_, rfl⟩ : ∃ u, u = a + b) fun u hu0 => ?_
  refine Exists.elim (⟨_, rfl⟩ : ∃ n, n = z / 4294967296) fun n1 hn1 => ?_
  refine Exists.elim (⟨_, rfl⟩ : ∃ n, n = z % 4294967296) fun n0 hn0 => ?_
  refine Exists.elim (⟨_, rfl⟩ : ∃ v, v = yn / 4294967296) fun v1 hv1 => ?_
  refine Exists.elim (⟨_, rfl⟩ : ∃ v, v = yn % 4294967296) fun v0 hv0 => ?_
  have sh5 : ((yn : Int)).fdiv (2 ^ min (32 : Int).toNat IntKind.u64.bits) = (v1 : Int) := by rw [hv1]; exact shr_div (x := yn) (s := 32) (k := .u64) (by decide)
  have sh6 : ((z : Int)).fdiv (2 ^ min (32 : Int).toNat IntKind.u64.bits) = (n1 : Int) := by rw [hn1]; exact shr_div (x := z) (s := 32) (k := .u64) (by decide)
  have lw1 : IntKind.u64.wrap (BitVec.ofInt IntKind.u64.bits (yn : Int) &&& BitVec.ofInt IntKind.u64.bits 4294967295).toNat = (v0 : Int) := by rw [hv0]; exact low32 yn hyn2
  have lw2 : IntKind.u64.wrap (BitVec.ofInt IntKind.u64.bits (z : Int) &&& BitVec.ofInt IntKind.u64.bits 4294967295).toNat = (n0 : Int) := by rw [hn0]; exact low32 z hzb
  rw [← hu0, ← hn1, ← hn0] at hc
  rw [← hu0] at hor hu
  have hdg := digits2 hc
  have K1 := khyp hyn1 hyn2 hu hc.n1b
  rw [← hv1, ← hv0] at K1
  have hn1b := hc.n1b
  have hn0b := hc.n0b
  have s0 : (0 : Int) ≤ IntKind.u64.wrap (64 - (Lib.bitLen y : Int)) := by rw [hes]; omega
  have s64 : (0 : Int) ≤ IntKind.u64.wrap (64 - IntKind.u64.wrap (64 - (Lib.bitLen y : Int))) := by rw [h64]; omega
  refine shl_as (yn : Int) s0 (by rw [hes]; exact sh1) ?_
  refine shr_as (v1 : Int) (by decide) sh5 ?_
  refine and_as (v0 : Int) lw1 ?_
  refine shl_as (a : Int) s0 (by rw [hes]; exact sh2) ?_
  refine shr_as (b : Int) s64 (by rw [h64]; exact sh4) ?_
  refine or_as (u : Int) hor ?_
  refine shl_as (z : Int) s0 (by rw [hes]; exact sh3) ?_
  refine shr_as (n1 : Int) (by decide) sh6 ?_
  refine and_as (n0 : Int) lw2 ?_
  clear sh1 sh2 sh3 sh4 sh5 sh6 lw1 lw2 hor hyn ha hb0 hz
  have st1 := K1.start
  have hv1a := K1.v1a
  have hv1b := K1.v1b
  have hq1 := st1.1.hi
  have hq1z : (0 : Int) ≤ (u : Int) / (v1 : Int) := Int.ediv_nonneg (Int.natCast_nonneg _) (Int.natCast_nonneg _)
  refine quo_as ((u : Int) / (v1 : Int)) (ne31 hv1a) (by exact start_q (Int.natCast_nonneg _) hq1z hq1) ?_
  have er1 : IntKind.u64.wrap ((u : Int) - IntKind.u64.wrap ((u : Int) / (v1 : Int) * (v1 : Int))) = (u : Int) - (u : Int) / (v1 : Int) * (v1 : Int) := by
    exact start_r st1.1.r0 st1.2 hv1b (nat_lt64 hu hyn2)
  refine loop_out tok (σ := Int × Int) (τ := Unit) 77371104881383677504880640 0 (fun t => [(15, .int .u64 t.1), (16, .int .u64 t.2)]) (fun t w' => KInv (v1 : Int) (u : Int) (((u * 4294967296 + n1) / yn : Nat) : Int) t.1 t.2 ∧ t.2 < 4294967296 ∧ Hp ⟨w, M, I⟩ [] [] w') (fun t => (4294967296 - t.2).toNat) ((u : Int) / (v1 : Int), (u : Int) - (u : Int) / (v1 : Int) * (v1 : Int))
    (fun _ => [(15, .int .u64 (((u * 4294967296 + n1) / yn : Nat) : Int))]) (fun _ w' => Hp ⟨w, M, I⟩ [] [] w') rfl rfl ⟨rfl, congrArg (Value.int .u64) er1, trivial⟩ ⟨st1.1, Int.lt_trans st1.2 hv1b, Hp.keep H1⟩ ?_ ?_
  · clear hdg hc
    intro t j w2 hW
    have hi1 := hW.1
    have hr := hW.2.1
    have H2 := hW.2.2
    have t0 : 0 ≤ t.1 := by have := K1.Q0; have := hi1.lo; omega
    have hr0 := hi1.r0
    have eq1 : IntKind.u64.wrap (t.1 - 1) = t.1 - 1 ∨ t.1 = 0 := by
      have := hi1.hi
      by_cases e : t.1 = 0
      · exact .inr e
      · left; rw [u64w]; omega
    have er2 : IntKind.u64.wrap (t.2 + (v1 : Int)) = t.2 + (v1 : Int) := by rw [u64w]; omega
    refine brd (fun hq => ?_) (fun hq => ?_)
    · have d := K1.dec hi1 (.inl hq)
      have eq2 : IntKind.u64.wrap (t.1 - 1) = t.1 - 1 := eq1.resolve_right (by omega)
      refine brd (fun hb => ?_) (fun hb => ?_)
      · rw [er2] at hb
        have ee := K1.break_ d (by have := d.hi; have := hi1.hi; omega) hb
        exact Exists.intro () (And.intro ⟨congrArg (Value.int .u64) (eq2.trans ee), trivial⟩ H2)
      · rw [er2] at hb
        exact Exists.intro (t.1 - 1, t.2 + (v1 : Int)) (And.intro ⟨congrArg (Value.int .u64) eq2, congrArg (Value.int .u64) er2, trivial⟩ (And.intro (by show (4294967296 - (t.2 + (v1 : Int))).toNat < (4294967296 - t.2).toNat; omega) ⟨d, by show t.2 + (v1 : Int) < 4294967296; omega, H2⟩))
    · have hqs := q_small (v0 := (v0 : Int)) t0 (by omega) K1.v0a K1.v0b
      have ea : IntKind.u64.wrap (t.1 * (v0 : Int)) = t.1 * (v0 : Int) := by rw [u64w]; omega
      have eb : IntKind.u64.wrap (IntKind.u64.wrap (4294967296 * t.2) + (n1 : Int)) = 4294967296 * t.2 + (n1 : Int) := by rw [u64w, u64w]; omega
      refine brd (fun hg => ?_) (fun hg => ?_)
      · rw [ea, eb] at hg
        have d := K1.dec hi1 (.inr hg)
        have eq2 : IntKind.u64.wrap (t.1 - 1) = t.1 - 1 := eq1.resolve_right (by have := d.lo; have := K1.Q0; omega)
        refine brd (fun hb => ?_) (fun hb => ?_)
        · rw [er2] at hb
          have ee := K1.break_ d (by have := d.hi; have := hi1.hi; omega) hb
          exact Exists.intro () (And.intro ⟨congrArg (Value.int .u64) (eq2.trans ee), trivial⟩ H2)
        · rw [er2] at hb
          exact Exists.intro (t.1 - 1, t.2 + (v1 : Int)) (And.intro ⟨congrArg (Value.int .u64) eq2, congrArg (Value.int .u64) er2, trivial⟩ (And.intro (by show (4294967296 - (t.2 + (v1 : Int))).toNat < (4294967296 - t.2).toNat; omega) ⟨d, by show t.2 + (v1 : Int) < 4294967296; omega, H2⟩))
      · rw [ea, eb] at hg
        have ee := K1.stop hi1 (by omega)
        exact Exists.intro () (And.intro ⟨congrArg (Value.int .u64) ee, trivial⟩ H2)
  intro _ j2 w3 H3
  have hQ0 := K1.Q0
  have hQ1 := K1.Q1
  refine Exists.elim (⟨_, rfl⟩ : ∃ q, q = (u * 4294967296 + n1) / yn) fun q1 hq1d => ?_
  refine Exists.elim (⟨_, rfl⟩ : ∃ q, q = (u * 4294967296 + n1) % yn) fun r1 hr1d => ?_
  have hrem := Q_rem (u := u) (n := n1) (yn := yn) (pos63 hyn1)
  have hr1lt : r1 < yn := by rw [hr1d]; exact Nat.mod_lt _ (pos63 hyn1)
  rw [← hq1d, ← hr1d] at hrem
  rw [← hq1d, ← hr1d] at hdg
  rw [← hq1d] at hQ0 hQ1
  have em : IntKind.u64.wrap (IntKind.u64.wrap (IntKind.u64.wrap ((u : Int) * 4294967296) + (n1 : Int)) - IntKind.u64.wrap ((((u * 4294967296 + n1) / yn : Nat) : Int) * (yn : Int))) = (r1 : Int) := by
    rw [← hq1d, mulsub (rem_lt64 hr1lt hyn2 hrem).1 (rem_lt64 hr1lt hyn2 hrem).2]; exact hrem
  have K2 := khyp hyn1 hyn2 hr1lt hn0b
  rw [← hv1, ← hv0] at K2
  have st2 := K2.start
  have hq2 := st2.1.hi
  have hq2z : (0 : Int) ≤ (r1 : Int) / (v1 : Int) := Int.ediv_nonneg (Int.natCast_nonneg _) (Int.natCast_nonneg _)
  refine quo_as ((r1 : Int) / (v1 : Int)) (ne31 hv1a) (by rw [em]; exact start_q (Int.natCast_nonneg _) hq2z hq2) ?_
  have er3 : IntKind.u64.wrap (IntKind.u64.wrap (IntKind.u64.wrap (IntKind.u64.wrap ((u : Int) * 4294967296) + (n1 : Int)) - IntKind.u64.wrap ((((u * 4294967296 + n1) / yn : Nat) : Int) * (yn : Int))) - IntKind.u64.wrap ((r1 : Int) / (v1 : Int) * (v1 : Int))) = (r1 : Int) - (r1 : Int) / (v1 : Int) * (v1 : Int) := by
    rw [em]; exact start_r st2.1.r0 st2.2 hv1b (nat_lt64 hr1lt hyn2)
  refine loop_out tok (σ := Int × Int) (τ := Unit) 2658450920967430832890008133748195328 2 (fun t => [(18, .int .u64 t.1), (16, .int .u64 t.2)]) (fun t w' => KInv (v1 : Int) (r1 : Int) (((r1 * 4294967296 + n0) / yn : Nat) : Int) t.1 t.2 ∧ t.2 < 4294967296 ∧ Hp ⟨w, M, I⟩ [] [] w') (fun t => (4294967296 - t.2).toNat) ((r1 : Int) / (v1 : Int), (r1 : Int) - (r1 : Int) / (v1 : Int) * (v1 : Int))
    (fun _ => [(18, .int .u64 (((r1 * 4294967296 + n0) / yn : Nat) : Int))]) (fun _ w' => Hp ⟨w, M, I⟩ [] [] w') rfl rfl ⟨rfl, congrArg (Value.int .u64) er3, trivial⟩ ⟨st2.1, Int.lt_trans st2.2 hv1b, Hp.keep H3⟩ ?_ ?_
  · clear hdg hc
    intro t j w2 hW
    have hi1 := hW.1
    have hr := hW.2.1
    have H2 := hW.2.2
    have t0 : 0 ≤ t.1 := by have := K2.Q0; have := hi1.lo; omega
    have hr0 := hi1.r0
    have eq1 : IntKind.u64.wrap (t.1 - 1) = t.1 - 1 ∨ t.1 = 0 := by
      have := hi1.hi
      by_cases e : t.1 = 0
      · exact .inr e
      · left; rw [u64w]; omega
    have er2 : IntKind.u64.wrap (t.2 + (v1 : Int)) = t.2 + (v1 : Int) := by rw [u64w]; omega
    refine brd (fun hq => ?_) (fun hq => ?_)
    · have d := K2.dec hi1 (.inl hq)
      have eq2 : IntKind.u64.wrap (t.1 - 1) = t.1 - 1 := eq1.resolve_right (by omega)
      refine brd (fun hb => ?_) (fun hb => ?_)
      · rw [er2] at hb
        have ee := K2.break_ d (by have := d.hi; have := hi1.hi; omega) hb
        exact Exists.intro () (And.intro ⟨congrArg (Value.int .u64) (eq2.trans ee), trivial⟩ H2)
      · rw [er2] at hb
        exact Exists.intro (t.1 - 1, t.2 + (v1 : Int)) (And.intro ⟨congrArg (Value.int .u64) eq2, congrArg (Value.int .u64) er2, trivial⟩ (And.intro (by show (4294967296 - (t.2 + (v1 : Int))).toNat < (4294967296 - t.2).toNat; omega) ⟨d, by show t.2 + (v1 : Int) < 4294967296; omega, H2⟩))
    · have hqs := q_small (v0 := (v0 : Int)) t0 (by omega) K2.v0a K2.v0b
      have ea : IntKind.u64.wrap (t.1 * (v0 : Int)) = t.1 * (v0 : Int) := by rw [u64w]; omega
      have eb : IntKind.u64.wrap (IntKind.u64.wrap (4294967296 * t.2) + (n0 : Int)) = 4294967296 * t.2 + (n0 : Int) := by rw [u64w, u64w]; omega
      refine brd (fun hg => ?_) (fun hg => ?_)
      · rw [ea, eb] at hg
        have d := K2.dec hi1 (.inr hg)
        have eq2 : IntKind.u64.wrap (t.1 - 1) = t.1 - 1 := eq1.resolve_right (by have := d.lo; have := K2.Q0; omega)
        refine brd (fun hb => ?_) (fun hb => ?_)
        · rw [er2] at hb
          have ee := K2.break_ d (by have := d.hi; have := hi1.hi; omega) hb
          exact Exists.intro () (And.intro ⟨congrArg (Value.int .u64) (eq2.trans ee), trivial⟩ H2)
        · rw [er2] at hb
          exact Exists.intro (t.1 - 1, t.2 + (v1 : Int)) (And.intro ⟨congrArg (Value.int .u64) eq2, congrArg (Value.int .u64) er2, trivial⟩ (And.intro (by show (4294967296 - (t.2 + (v1 : Int))).toNat < (4294967296 - t.2).toNat; omega) ⟨d, by show t.2 + (v1 : Int) < 4294967296; omega, H2⟩))
      · rw [ea, eb] at hg
        have ee := K2.stop hi1 (by omega)
        exact Exists.intro () (And.intro ⟨congrArg (Value.int .u64) ee, trivial⟩ H2)
  intro _ j4 w4 H4
  have hrem2 := Q_rem (u := r1) (n := n0) (yn := yn) (pos63 hyn1)
  have hr2lt : (r1 * 4294967296 + n0) % yn < yn := Nat.mod_lt _ (pos63 hyn1)
  have hQ20 := K2.Q0
  have hQ21 := K2.Q1
  have em2 : IntKind.u64.wrap (IntKind.u64.wrap (IntKind.u64.wrap (IntKind.u64.wrap (IntKind.u64.wrap (IntKind.u64.wrap ((u : Int) * 4294967296) + (n1 : Int)) - IntKind.u64.wrap ((((u * 4294967296 + n1) / yn : Nat) : Int) * (yn : Int))) * 4294967296) + (n0 : Int)) - IntKind.u64.wrap ((((r1 * 4294967296 + n0) / yn : Nat) : Int) * (yn : Int))) = (((r1 * 4294967296 + n0) % yn : Nat) : Int) := by
    rw [em, mulsub (rem_lt64 hr2lt hyn2 hrem2).1 (rem_lt64 hr2lt hyn2 hrem2).2]; exact hrem2
  have sh7 : ((((r1 * 4294967296 + n0) % yn : Nat) : Int)).fdiv (2 ^ min ((s : Int)).toNat IntKind.u64.bits) = (((r1 * 4294967296 + n0) % yn / 2 ^ s : Nat) : Int) := shr_div (k := .u64) (by show s ≤ 64; omega)
  refine shr_as (((r1 * 4294967296 + n0) % yn / 2 ^ s : Nat) : Int) s0 (by rw [em2, hes]; exact sh7) ?_
  have eqf : IntKind.u64.wrap (IntKind.u64.wrap ((((u * 4294967296 + n1) / yn : Nat) : Int) * 4294967296) + (((r1 * 4294967296 + n0) / yn : Nat) : Int)) = (((hi * 18446744073709551616 + lo) / y : Nat) : Int) := by
    rw [← hq1d, hdg.1]; exact two_digits hQ0 hQ1 hQ20 hQ21
  refine Exists.intro () (And.intro ?_ (And.intro trivial (Hp.keep H4)))
  show Value.tuple #[.int .u64 (IntKind.u64.wrap (IntKind.u64.wrap ((((u * 4294967296 + n1) / yn : Nat) : Int) * 4294967296) + (((r1 * 4294967296 + n0) / yn : Nat) : Int))), .int .u64 (((r1 * 4294967296 + n0) % yn / 2 ^ s : Nat) : Int)] = _
  rw [eqf, hdg.2]
end Go.Proofs.YtjlfjjgjghdokaaGreatDoor
/- Products of 128 bits, their parts; a month's interest: the walks. -/
set_option linter.unusedVariables false
namespace Go.Proofs.YtjlfjjgjghdokaaGreatDoor
open Go Go.Proofs Go.Wk
@[reducible] def wideV (hi lo : Nat) : Value := .agg #[.int .u64 (hi : Int), .int .u64 (lo : Int)]
@[reducible] def wideC (hi lo : Nat) : List Value := [.int .u64 (hi : Int), .int .u64 (lo : Int)]
theorem mul64 (a b : Nat) (ha : a < 18446744073709551616) (hb : b < 18446744073709551616) : CB 247 [.int .u64 a, .int .u64 b] (.tuple #[.int .u64 ((a * b / 18446744073709551616 : Nat) : Int), .int .u64 ((a * b % 18446744073709551616 : Nat) : Int)]) := fun w M I H =>
  Ctr.of_below H Tryz.call247 ((Tryz.bits_Mul64 a b ha hb w).mono fun e w' h => ⟨(), h.1, trivial, by rw [h.2]; exact Go.RowKit.Below.refl _ _⟩)
theorem wideMul (a b : Nat) (ha : a < 18446744073709551616) (hb : b < 18446744073709551616) : CB 219 [.int .u64 a, .int .u64 b] (wideV (a * b / 18446744073709551616) (a * b % 18446744073709551616)) := by
  intro w M I H
  refine Exe.of_ev tok Tryz.call219 Tryz.func219 rfl rfl rfl ?_
  refine alloc_as tok H (wideC 0 0) rfl rfl rfl fun r w1 H1 => ?_
  refine call_rule H1 (fun M I _ h => mul64 a b ha hb _ M I h) fun _ w2 _ H2 => ?_
  refine store_as tok H2 (wideC (a * b / 18446744073709551616) (a * b % 18446744073709551616)) rfl rfl rfl rfl rfl fun w3 H3 => ?_
  refine Exists.intro ⟨r, 0, none⟩ (Exists.intro (wideV (a * b / 18446744073709551616) (a * b % 18446744073709551616)) (And.intro rfl (And.intro (Hp.ld (T := tb) tok H3 rfl) ?_)))
  exact Exists.intro () (And.intro rfl (And.intro trivial (Hp.keep H3)))
theorem wideDiv (hi lo n : Nat) (h1 : hi < 18446744073709551616) (h2 : lo < 18446744073709551616) (h3 : n < 18446744073709551616) (h0 : 0 < n) : CB 221 [wideV hi lo, .int .u64 n] (.tuple #[wideV (hi / n) ((hi % n * 18446744073709551616 + lo) / n), .int .u64 (((hi % n * 18446744073709551616 + lo) % n : Nat) : Int), .nilIface]) := by
  intro w M I H
  have hq : IntKind.u64.wrap (((hi : Int)).tdiv n) = ((hi / n : Nat) : Int) := by rw [tdiv_nat]; exact u64n (Nat.lt_of_le_of_lt (Nat.div_le_self _ _) h1)
  refine Exe.of_ev tok Tryz.call221 Tryz.func221 rfl rfl rfl ?_
  refine box_as H (wideC hi lo) rfl fun b w1 H1 => ?_
  refine alloc_as tok H1 (wideC 0 0) rfl rfl rfl fun r w2 H2 => ?_
  refine br (fun q => ?_) (fun _ => ?_)
  · exfalso; have q : ((n : Int) == 0) = true := q; simp at q; omega
  refine load_rule tok H2 (v := .int .u64 (hi : Int)) rfl ?_
  refine quo_as ((hi / n : Nat) : Int) (by omega) hq ?_
  refine draw_rule (A := []) tok tdr H2 [0, 1, 2, 3, 4, 5, 6, 7, 8, 9, 10, 11, 12] [0, 1, 0, 7, 0, 16, 0, 127, 255, 511, 511, 1023, 4095] rfl ?_
  refine pass_rule _ (fun w h => load_rule tok h (v := .int .u64 (hi : Int)) rfl ⟨rfl, rfl⟩) ?_
  refine pass_rule _ (fun w h => rem_as ((hi % n : Nat) : Int) (by omega) (tmod_nat hi n) ⟨rfl, rfl⟩) ?_
  refine pass_rule _ (fun w h => load_rule tok h (v := .int .u64 (lo : Int)) rfl ⟨rfl, rfl⟩) ?_
  refine imp_rule (fun X wx h => call_rule h (fun M I _ h => div64 (hi % n) lo n (Nat.mod_lt _ h0) h2 h3 _ M I h) fun _ w1 _ H1 => imp_done H1 ?_)
  refine done_rule fun w3 H3 => ?_
  refine store_as tok H3 (wideC (hi / n) ((hi % n * 18446744073709551616 + lo) / n)) rfl rfl rfl rfl rfl fun w4 H4 => ?_
  refine Exists.intro ⟨r, 0, none⟩ (Exists.intro (wideV (hi / n) ((hi % n * 18446744073709551616 + lo) / n)) (And.intro rfl (And.intro (Hp.ld (T := tb) tok H4 rfl) ?_)))
  exact Exists.intro () (And.intro rfl (And.intro trivial (Hp.keep H4)))
theorem wideSmall (lo : Nat) : CB 222 [wideV 0 lo] (.tuple #[.int .u64 (lo : Int), .nilIface]) := by
  intro w M I H
  refine Exe.of_ev tok Tryz.call222 Tryz.func222 rfl rfl rfl ?_
  refine box_as H (wideC 0 lo) rfl fun b w1 H1 => ?_
  refine load_rule tok H1 (v := .int .u64 0) rfl ?_
  refine load_rule tok H1 (v := .int .u64 (lo : Int)) rfl ?_
  exact Exists.intro () (And.intro rfl (And.intro trivial (Hp.keep H1)))
theorem split_div {p n : Nat} (h0 : 0 < n) (h : p / n < 18446744073709551616) : p / 18446744073709551616 / n = 0 ∧ p / 18446744073709551616 % n * 18446744073709551616 + p % 18446744073709551616 = p := by
  have h1 : p / 18446744073709551616 / n = 0 := by
    rw [Nat.div_div_eq_div_mul, Nat.mul_comm, ← Nat.div_div_eq_div_mul]
    exact Nat.div_eq_of_lt h
  refine ⟨h1, ?_⟩
  have h2 := Nat.div_add_mod (p / 18446744073709551616) n
  rw [h1, Nat.mul_zero, Nat.zero_add] at h2
  rw [h2]
  have := Nat.div_add_mod p 18446744073709551616
  omega
theorem scale (a b c : Nat) (ha : a < 18446744073709551616) (hb : b < 18446744073709551616) (hc : c < 18446744073709551616) (h0 : 0 < c) (hq : a * b / c < 18446744073709551616) : CB 241 [.int .u64 a, .int .u64 b, .int .u64 c] (.tuple #[.int .u64 ((a * b / c : Nat) : Int), .int .u64 ((a * b % c : Nat) : Int), .nilIface]) := by
  intro w M I H
  obtain ⟨e1, e2⟩ := split_div (p := a * b) h0 hq
  have hhi : a * b / 18446744073709551616 < 18446744073709551616 := by
    rw [Nat.div_lt_iff_lt_mul (by decide)]
    exact Nat.mul_lt_mul'' ha hb
  have wd := wideDiv (a * b / 18446744073709551616) (a * b % 18446744073709551616) c hhi (Nat.mod_lt _ (by decide)) hc h0
  rw [e1, e2] at wd
  refine Exe.of_ev tok Tryz.call241 Tryz.func241 rfl rfl rfl ?_
  refine call_rule H (fun M I _ h => wideMul a b ha hb _ M I h) fun _ w1 _ H1 => ?_
  refine call_rule H1 (fun M I _ h => wd _ M I h) fun _ w2 _ H2 => ?_
  refine alloc_as tok H2 (wideC 0 0) rfl rfl rfl fun r w3 H3 => ?_
  refine store_as tok H3 (wideC 0 (a * b / c)) rfl rfl rfl rfl rfl fun w4 H4 => ?_
  refine load_rule tok H4 (v := wideV 0 (a * b / c)) rfl ?_
  refine call_rule H4 (fun M I _ h => wideSmall (a * b / c) _ M I h) fun _ w5 _ H5 => ?_
  exact Exists.intro () (And.intro rfl (And.intro trivial (Hp.keep H5)))
theorem up64 {q : Nat} (h : q < 18446744073709551615) : IntKind.u64.wrap ((q : Int) + 1) = ((q + 1 : Nat) : Int) := by rw [u64w]; omega
theorem sub64 {c l : Nat} (h : l < c) (hc : c < 18446744073709551616) : IntKind.u64.wrap ((c : Int) - (l : Int)) = ((c - l : Nat) : Int) := by rw [u64w]; omega
/-- To the nearest. -/
def roundN (x c : Nat) : Nat := if x % c < c - x % c then x / c else x / c + 1
theorem round_ (a b c : Nat) (ha : a < 18446744073709551616) (hb : b < 18446744073709551616) (hc : c < 18446744073709551616) (h0 : 0 < c) (hq : a * b / c < 18446744073709551615) : CB 209 [.int .u64 a, .int .u64 b, .int .u64 c] (.tuple #[.int .u64 ((roundN (a * b) c : Nat) : Int), .nilIface]) := by
  intro w M I H
  have hm := Nat.mod_lt (a * b) h0
  have ec : IntKind.u64.wrap ((c : Int) - ((a * b % c : Nat) : Int)) = ((c - a * b % c : Nat) : Int) := sub64 hm hc
  have e1 : IntKind.u64.wrap (((a * b / c : Nat) : Int) + 1) = ((a * b / c + 1 : Nat) : Int) := up64 hq
  refine Exe.of_ev tok Tryz.call209 Tryz.func209 rfl rfl rfl ?_
  refine call_rule H (fun M I _ h => scale a b c ha hb hc h0 (by omega) _ M I h) fun _ w1 _ H1 => ?_
  refine brd (fun q => ?_) (fun q => ?_)
  · rw [ec] at q
    have e : roundN (a * b) c = a * b / c := by unfold roundN; rw [if_pos (Int.ofNat_lt.1 q)]
    refine Exists.intro () (And.intro ?_ (And.intro trivial (Hp.keep H1)))
    show Value.tuple #[.int .u64 ((a * b / c : Nat) : Int), .nilIface] = _
    rw [e]
  · rw [ec] at q
    have e : roundN (a * b) c = a * b / c + 1 := by unfold roundN; rw [if_neg (fun h => q (Int.ofNat_lt.2 h))]
    refine br (fun q2 => ?_) (fun q2 => ?_)
    · exfalso
      have q2 : (IntKind.u64.wrap (((a * b / c : Nat) : Int) + 1) == 0) = true := q2
      rw [e1] at q2
      exact absurd (eq_of_beq q2) (Int.ofNat_ne_zero.2 (Nat.succ_ne_zero _))
    · refine Exists.intro () (And.intro ?_ (And.intro trivial (Hp.keep H1)))
      show Value.tuple #[.int .u64 (IntKind.u64.wrap (((a * b / c : Nat) : Int) + 1)), .nilIface] = _
      rw [e1, e]
def yearS (b : Int) : Int := if b = 1 then 365 else if b = 2 then 360 else 0
theorem year (b : Int) : CB 206 [.int .u8 b] (.int .i64 (yearS b)) := by
  intro w M I H
  refine Exe.of_ev tok Tryz.call206 Tryz.func206 rfl rfl rfl ?_
  refine br (fun q => ?_) (fun q => ?_)
  · have q : b = 1 := by have q : (b == 1) = true := q; simpa using q
    exact Exists.intro () (And.intro (congrArg (Value.int .i64) (by unfold yearS; rw [if_pos q])) (And.intro trivial H))
  have q1 : b ≠ 1 := by have q : (b == 1) = false := q; simpa using q
  refine br (fun q => ?_) (fun q => ?_)
  · have q : b = 2 := by have q : (b == 2) = true := q; simpa using q
    exact Exists.intro () (And.intro (congrArg (Value.int .i64) (by unfold yearS; rw [if_neg q1, if_pos q])) (And.intro trivial H))
  · have q : b ≠ 2 := by have q : (b == 2) = false := q; simpa using q
    exact Exists.intro () (And.intro (congrArg (Value.int .i64) (by unfold yearS; rw [if_neg q1, if_neg q])) (And.intro trivial H))
def rateB (parts b : Int) : Bool := decide (parts ≤ 1000000) && decide (0 < yearS b)
@[reducible] def rateV (parts b : Int) : Value := .agg #[.int .u32 parts, .int .u8 b]
@[reducible] def rateC (parts b : Int) : List Value := [.int .u32 parts, .int .u8 b]
theorem rateRight (parts b : Int) : CB 150 [rateV parts b] (.bool (rateB parts b)) := by
  intro w M I H
  refine Exe.of_ev tok Tryz.call150 Tryz.func150 rfl rfl rfl ?_
  refine box_as H (rateC parts b) rfl fun r w1 H1 => ?_
  refine load_rule tok H1 (v := .int .u32 parts) rfl ?_
  refine brd (fun q => ?_) (fun q => ?_)
  · refine load_rule tok H1 (v := .int .u8 b) rfl ?_
    refine call_rule H1 (fun M I _ h => year b _ M I h) fun _ w2 _ H2 => ?_
    refine Exists.intro () (And.intro (congrArg Value.bool ?_) (And.intro trivial (Hp.keep H2)))
    show decide (0 < yearS b) = rateB parts b
    simp [rateB, q]
  · refine Exists.intro () (And.intro (congrArg Value.bool ?_) (And.intro trivial (Hp.keep H1)))
    show false = rateB parts b
    simp [rateB, q]
def coinB (c : Int) : Bool := decide (0 ≤ c) && decide (c ≤ 1000000000000)
theorem coinRight (c : Int) : CB 109 [.int .i64 c] (.bool (coinB c)) := by
  intro w M I H
  refine Exe.of_ev tok Tryz.call109 Tryz.func109 rfl rfl rfl ?_
  refine brd (fun q => ?_) (fun q => ?_)
  · refine Exists.intro () (And.intro (congrArg Value.bool ?_) (And.intro trivial H))
    show decide (c ≤ 1000000000000) = coinB c
    simp [coinB, q]
  · refine Exists.intro () (And.intro (congrArg Value.bool ?_) (And.intro trivial H))
    show false = coinB c
    simp [coinB, q]
/-- A month's interest. -/
def monN (parts p : Nat) : Nat := roundN (p * (parts * 30)) 360000000
theorem monN_le {parts p : Nat} (h1 : parts ≤ 1000000) : 12 * monN parts p ≤ p + 12 := by
  have h2 : p * (parts * 30) ≤ p * 30000000 := Nat.mul_le_mul_left _ (by omega)
  have h3 : p * (parts * 30) / 360000000 ≤ p * 30000000 / 360000000 := Nat.div_le_div_right h2
  have h4 : p * 30000000 / 360000000 ≤ p / 12 := by omega
  unfold monN roundN
  split <;> omega
theorem month_ (parts p : Nat) (b : Int) (hr : rateB parts b = true) (hp : p ≤ 1000000000000) : CB 152 [rateV parts b, .int .i64 p] (.tuple #[.int .i64 ((monN parts p : Nat) : Int), .nilIface]) := by
  intro w M I H
  have hparts : parts ≤ 1000000 := by simp only [rateB, Bool.and_eq_true, decide_eq_true_eq] at hr; omega
  have hcb : coinB (p : Int) = true := by simp only [coinB, Bool.and_eq_true, decide_eq_true_eq]; omega
  have e1 : IntKind.u64.wrap (p : Int) = (p : Int) := u64n (by omega)
  have e2 : IntKind.u64.wrap (IntKind.u64.wrap (parts : Int) * 30) = ((parts * 30 : Nat) : Int) := by rw [u64w, u64w]; omega
  have h2 : p * (parts * 30) ≤ 1000000000000 * 30000000 := Nat.mul_le_mul hp (by omega)
  have h3 : p * (parts * 30) / 360000000 < 18446744073709551615 := Nat.lt_of_le_of_lt (Nat.div_le_div_right h2) (by decide)
  have hmn := monN_le (p := p) hparts
  have e3 : IntKind.i64.wrap ((monN parts p : Nat) : Int) = ((monN parts p : Nat) : Int) := i64w (by omega) (by omega)
  have rd := round_ p (parts * 30) 360000000 (by omega) (by omega) (by decide) (by decide) h3
  refine Exe.of_ev tok Tryz.call152 Tryz.func152 rfl rfl rfl ?_
  refine box_as H (rateC parts b) rfl fun r w1 H1 => ?_
  refine load_rule tok H1 (v := rateV parts b) rfl ?_
  refine call_rule H1 (fun M I _ h => hr ▸ rateRight parts b _ M I h) fun _ w2 _ H2 => ?_
  refine call_rule H2 (fun M I _ h => hcb ▸ coinRight (p : Int) _ M I h) fun _ w3 _ H3 => ?_
  refine draw_rule (A := []) tok tdr H3 [6, 0, 1, 2, 3, 4, 5, 7, 8, 9, 10, 11, 12, 13, 14] [0, 1, 0, 4, 12, 28, 0, 64, 192, 511, 1023, 2047, 2047, 4095, 16383] rfl ?_
  refine imp_rule (fun X wx h => call_rule h (fun M I _ h => year 2 _ M I h) fun _ w1 _ H1 => imp_done H1 ?_)
  refine pass_rule _ (fun w h => load_rule tok h (v := .int .u32 (parts : Int)) rfl ⟨rfl, rfl⟩) ?_
  refine imp_rule (fun X wx h => call_rule h (fun M I _ h => e1.symm ▸ e2.symm ▸ rd _ M I h) fun _ w1 _ H1 => imp_done H1 ?_)
  refine done_rule fun w4 H4 => ?_
  refine Exists.intro () (And.intro ?_ (And.intro trivial (Hp.keep H4)))
  show Value.tuple #[.int .i64 (IntKind.i64.wrap ((monN parts p : Nat) : Int)), .nilIface] = _
  rw [e3]
end Go.Proofs.YtjlfjjgjghdokaaGreatDoor
/- A month with a payment, the least payment: the walks. -/
set_option linter.unusedVariables false
namespace Go.Proofs.YtjlfjjgjghdokaaGreatDoor
open Go Go.Proofs Go.Wk
def lvName (k : Int) : ByteArray := if k = 1 then ⟨#[108, 101, 118, 101, 108]⟩ else if k = 2 then ⟨#[111, 110, 108, 121]⟩ else ⟨#[]⟩
theorem levelName (k : Int) : CB 143 [.int .u8 k] (.string (lvName k)) := by
  intro w M I H
  refine Exe.of_ev tok Tryz.call143 Tryz.func143 rfl rfl rfl ?_
  refine br (fun q => ?_) (fun q => ?_)
  · have q : k = 1 := by have q : (k == 1) = true := q; simpa using q
    exact Exists.intro () (And.intro (congrArg Value.string (by unfold lvName; rw [if_pos q])) (And.intro trivial H))
  have q1 : k ≠ 1 := by have q : (k == 1) = false := q; simpa using q
  refine br (fun q => ?_) (fun q => ?_)
  · have q : k = 2 := by have q : (k == 2) = true := q; simpa using q
    exact Exists.intro () (And.intro (congrArg Value.string (by unfold lvName; rw [if_neg q1, if_pos q])) (And.intro trivial H))
  · have q : k ≠ 2 := by have q : (k == 2) = false := q; simpa using q
    exact Exists.intro () (And.intro (congrArg Value.string (by unfold lvName; rw [if_neg q1, if_neg q])) (And.intro trivial H))
def lvRight (p parts b n : Int) : Bool := rateB parts b && (decide (1 ≤ p) && (coinB p && (decide (1 ≤ n) && decide (n ≤ 480))))
theorem levelRight (p parts b n : Int) : CB 207 [.int .i64 p, rateV parts b, .int .i64 n] (.bool (lvRight p parts b n)) := by
  intro w M I H
  refine Exe.of_ev tok Tryz.call207 Tryz.func207 rfl rfl rfl ?_
  refine box_as H (rateC parts b) rfl fun r w1 H1 => ?_
  refine load_rule tok H1 (v := rateV parts b) rfl ?_
  refine call_rule H1 (fun M I _ h => rateRight parts b _ M I h) fun _ w2 _ H2 => ?_
  refine br (fun q1 => ?_) (fun q1 => ?_)
  · have q1 : rateB parts b = true := q1
    refine brd (fun q2 => ?_) (fun q2 => ?_)
    · refine call_rule H2 (fun M I _ h => coinRight p _ M I h) fun _ w3 _ H3 => ?_
      refine br (fun q3 => ?_) (fun q3 => ?_)
      · have q3 : coinB p = true := q3
        refine brd (fun q4 => ?_) (fun q4 => ?_)
        · exact Exists.intro () (And.intro (congrArg Value.bool (by unfold lvRight; rw [q1, q3, decide_eq_true q2, decide_eq_true q4]; rfl)) (And.intro trivial (Hp.keep H3)))
        · exact Exists.intro () (And.intro (congrArg Value.bool (by unfold lvRight; rw [decide_eq_false q4]; simp)) (And.intro trivial (Hp.keep H3)))
      · have q3 : coinB p = false := q3
        exact Exists.intro () (And.intro (congrArg Value.bool (by unfold lvRight; rw [q3]; simp)) (And.intro trivial (Hp.keep H3)))
    · exact Exists.intro () (And.intro (congrArg Value.bool (by unfold lvRight; rw [decide_eq_false q2]; simp)) (And.intro trivial (Hp.keep H2)))
  · have q1 : rateB parts b = false := q1
    exact Exists.intro () (And.intro (congrArg Value.bool (by unfold lvRight; rw [q1]; simp)) (And.intro trivial (Hp.keep H2)))
/-- A month's interest of what is left. -/
def iM (parts left : Int) : Int := ((monN parts.toNat left.toNat : Nat) : Int)
theorem iM_bd {parts b left : Int} (hr : rateB parts b = true) (h0 : 0 ≤ parts) (hl : 0 ≤ left) (hl2 : left ≤ 1000000000000) : 0 ≤ iM parts left ∧ 12 * iM parts left ≤ left + 12 := by
  have hp : parts ≤ 1000000 := by simp only [rateB, Bool.and_eq_true, decide_eq_true_eq] at hr; omega
  have := monN_le (parts := parts.toNat) (p := left.toNat) (by omega)
  unfold iM; omega
theorem month0 (parts b left : Int) (hr : rateB parts b = true) (h0 : 0 ≤ parts) (hl : 0 ≤ left) (hl2 : left ≤ 1000000000000) : CB 152 [rateV parts b, .int .i64 left] (.tuple #[.int .i64 (iM parts left), .nilIface]) := by
  have e1 : ((parts.toNat : Nat) : Int) = parts := Int.toNat_of_nonneg h0
  have e2 : ((left.toNat : Nat) : Int) = left := Int.toNat_of_nonneg hl
  have := month_ parts.toNat left.toNat b (by rw [e1]; exact hr) (by omega)
  rw [e1, e2] at this
  exact this
/-- A month: interest, principal, what is left. -/
def mon3 (parts left pay : Int) (all : Bool) : Int × Int × Int :=
  if all = true ∨ left + iM parts left < pay then (iM parts left, left + iM parts left - iM parts left, left + iM parts left - (left + iM parts left)) else (iM parts left, pay - iM parts left, left + iM parts left - pay)
@[reducible] def row3V (a : Int × Int × Int) : Value := .agg #[.int .i64 a.1, .int .i64 a.2.1, .int .i64 a.2.2]
@[reducible] def row3C (a : Int × Int × Int) : List Value := [.int .i64 a.1, .int .i64 a.2.1, .int .i64 a.2.2]
set_option maxHeartbeats 1000000 in
theorem month3 (parts b left pay : Int) (all : Bool) (hr : rateB parts b = true) (h0 : 0 ≤ parts) (hl : 0 ≤ left) (hl2 : left ≤ 1000000000000) (hp : 0 ≤ pay) (hp2 : pay ≤ 2000000000000) :
    CB 153 [.int .i64 left, rateV parts b, .int .i64 pay, .bool all] (row3V (mon3 parts left pay all)) := by
  intro w M I H
  have hb := iM_bd hr h0 hl hl2
  have eo : IntKind.i64.wrap (left + iM parts left) = left + iM parts left := i64w (by omega) (by omega)
  have e1 : IntKind.i64.wrap (left + iM parts left - iM parts left) = left + iM parts left - iM parts left := i64w (by omega) (by omega)
  have e2 : IntKind.i64.wrap (left + iM parts left - (left + iM parts left)) = left + iM parts left - (left + iM parts left) := i64w (by omega) (by omega)
  have e3 : IntKind.i64.wrap (pay - iM parts left) = pay - iM parts left := i64w (by omega) (by omega)
  have e4 : IntKind.i64.wrap (left + iM parts left - pay) = left + iM parts left - pay := i64w (by omega) (by omega)
  refine Exe.of_ev tok Tryz.call153 Tryz.func153 rfl rfl rfl ?_
  refine box_as H (rateC parts b) rfl fun r w1 H1 => ?_
  refine alloc_as tok H1 (row3C (0, 0, 0)) rfl rfl rfl fun o w2 H2 => ?_
  refine load_rule tok H2 (v := rateV parts b) rfl ?_
  refine call_rule H2 (fun M I _ h => month0 parts b left hr h0 hl hl2 _ M I h) fun _ w3 _ H3 => ?_
  refine br (fun q => ?_) (fun q => ?_)
  · have q : all = true := q
    have em : mon3 parts left pay all = (iM parts left, left + iM parts left - iM parts left, left + iM parts left - (left + iM parts left)) := by unfold mon3; rw [if_pos (.inl q)]
    refine store_as tok H3 [.int .i64 (iM parts left), .int .i64 (IntKind.i64.wrap (IntKind.i64.wrap (left + iM parts left) - iM parts left)), .int .i64 (IntKind.i64.wrap (IntKind.i64.wrap (left + iM parts left) - IntKind.i64.wrap (left + iM parts left)))] rfl rfl rfl rfl rfl fun w4 H4 => ?_
    rw [eo, e1, e2] at H4
    refine Exists.intro ⟨o, 0, none⟩ (Exists.intro (row3V (iM parts left, left + iM parts left - iM parts left, left + iM parts left - (left + iM parts left))) (And.intro rfl (And.intro (Hp.ld (T := tb) tok H4 rfl) ?_)))
    exact Exists.intro () (And.intro (by rw [em]) (And.intro trivial (Hp.keep H4)))
  have q : all = false := q
  refine brd (fun q2 => ?_) (fun q2 => ?_)
  · rw [eo] at q2
    have em : mon3 parts left pay all = (iM parts left, left + iM parts left - iM parts left, left + iM parts left - (left + iM parts left)) := by unfold mon3; rw [if_pos (.inr q2)]
    refine store_as tok H3 [.int .i64 (iM parts left), .int .i64 (IntKind.i64.wrap (IntKind.i64.wrap (left + iM parts left) - iM parts left)), .int .i64 (IntKind.i64.wrap (IntKind.i64.wrap (left + iM parts left) - IntKind.i64.wrap (left + iM parts left)))] rfl rfl rfl rfl rfl fun w4 H4 => ?_
    rw [eo, e1, e2] at H4
    refine Exists.intro ⟨o, 0, none⟩ (Exists.intro (row3V (iM parts left, left + iM parts left - iM parts left, left + iM parts left - (left + iM parts left))) (And.intro rfl (And.intro (Hp.ld (T := tb) tok H4 rfl) ?_)))
    exact Exists.intro () (And.intro (by rw [em]) (And.intro trivial (Hp.keep H4)))
  · rw [eo] at q2
    have em : mon3 parts left pay all = (iM parts left, pay - iM parts left, left + iM parts left - pay) := by unfold mon3; rw [if_neg (by rw [q]; simp; omega)]
    refine store_as tok H3 [.int .i64 (iM parts left), .int .i64 (IntKind.i64.wrap (pay - iM parts left)), .int .i64 (IntKind.i64.wrap (IntKind.i64.wrap (left + iM parts left) - pay))] rfl rfl rfl rfl rfl fun w4 H4 => ?_
    rw [eo, e3, e4] at H4
    refine Exists.intro ⟨o, 0, none⟩ (Exists.intro (row3V (iM parts left, pay - iM parts left, left + iM parts left - pay)) (And.intro rfl (And.intro (Hp.ld (T := tb) tok H4 rfl) ?_)))
    exact Exists.intro () (And.intro (by rw [em]) (And.intro trivial (Hp.keep H4)))
theorem mon3_left {parts b left pay : Int} (hr : rateB parts b = true) (h0 : 0 ≤ parts) (hl : 0 ≤ left) (hl2 : left ≤ 1000000000000) (all : Bool) : 0 ≤ (mon3 parts left pay all).2.2 := by
  have := iM_bd hr h0 hl hl2
  unfold mon3
  split
  · show 0 ≤ left + iM parts left - (left + iM parts left); omega
  · rename_i h
    show 0 ≤ left + iM parts left - pay
    have : ¬ left + iM parts left < pay := fun e => h (.inr e)
    omega
/-- Does a payment leave nothing? -/
def enGo (parts pay : Int) : Nat → Int → Bool
  | 0, left => left == 0
  | k + 1, left => if left = 0 then true else if left ≤ (mon3 parts left pay false).2.2 then false else enGo parts pay k (mon3 parts left pay false).2.2
theorem enough (p parts b pay : Int) (n : Nat) (hn : n ≤ 1000) (hr : rateB parts b = true) (h0 : 0 ≤ parts) (hl : 0 ≤ p) (hl2 : p ≤ 1000000000000) (hp : 0 ≤ pay) (hp2 : pay ≤ 2000000000000) :
    CB 208 [.int .i64 p, rateV parts b, .int .i64 n, .int .i64 pay] (.bool (enGo parts pay n p)) := by
  intro w M I H
  refine Exe.of_ev tok Tryz.call208 Tryz.func208 rfl rfl rfl ?_
  refine box_as H (rateC parts b) rfl fun r w1 H1 => ?_
  refine loop_rule tok (σ := Nat × Int) 268429056 (fun s => [(9, .int .i64 s.2), (13, .int .i64 (s.1 : Int))]) (fun s w' => s.1 ≤ n ∧ 0 ≤ s.2 ∧ s.2 ≤ 1000000000000 ∧ enGo parts pay n p = enGo parts pay (n - s.1) s.2 ∧ Hp ⟨w, M, I⟩ [blk r (rateC parts b) 25] [] w') (fun s => n - s.1) (0, p) rfl rfl ⟨rfl, rfl, trivial⟩ ⟨Nat.zero_le _, hl, hl2, rfl, H1⟩ ?_
  intro s j w2 hW
  have hi := hW.1
  have hs0 := hW.2.1
  have hs1 := hW.2.2.1
  have hg := hW.2.2.2.1
  have H2 := hW.2.2.2.2
  refine brd (fun hlt => ?_) (fun hge => ?_)
  · have ew : IntKind.i64.wrap ((s.1 : Int) + 1) = ((s.1 + 1 : Nat) : Int) := i64w (by omega) (by omega)
    have ek : n - s.1 = (n - (s.1 + 1)) + 1 := by omega
    rw [ek, enGo] at hg
    refine load_rule tok H2 (v := rateV parts b) rfl ?_
    refine call_rule H2 (fun M I _ h => month3 parts b s.2 pay false hr h0 hs0 hs1 hp hp2 _ M I h) fun _ w3 _ H3 => ?_
    refine alloc_as tok H3 (row3C (0, 0, 0)) rfl rfl rfl fun o w4 H4 => ?_
    refine store_as tok H4 (row3C (mon3 parts s.2 pay false)) rfl rfl rfl rfl rfl fun w5 H5 => ?_
    refine br (fun q => ?_) (fun q => ?_)
    · have q : s.2 = 0 := by have q : (s.2 == 0) = true := q; simpa using q
      rw [if_pos q] at hg
      refine Exists.intro () (And.intro (congrArg Value.bool ?_) (And.intro trivial (Hp.keep H5)))
      show (s.2 == 0) = _
      rw [hg, q]; rfl
    have q : ¬ s.2 = 0 := by have q : (s.2 == 0) = false := q; simpa using q
    rw [if_neg q] at hg
    refine load_rule tok H5 (v := .int .i64 (mon3 parts s.2 pay false).2.2) rfl ?_
    refine brd (fun q2 => ?_) (fun q2 => ?_)
    · rw [if_pos q2] at hg
      exact Exists.intro () (And.intro (congrArg Value.bool hg.symm) (And.intro trivial (Hp.keep H5)))
    · rw [if_neg q2] at hg
      have hm := mon3_left (pay := pay) hr h0 hs0 hs1 false
      refine load_rule tok H5 (v := .int .i64 (mon3 parts s.2 pay false).2.2) rfl ?_
      exact Exists.intro (s.1 + 1, (mon3 parts s.2 pay false).2.2) (And.intro ⟨rfl, congrArg (Value.int .i64) ew, trivial⟩ (And.intro (by show n - (s.1 + 1) < n - s.1; omega) ⟨by show s.1 + 1 ≤ n; omega, hm, by show (mon3 parts s.2 pay false).2.2 ≤ 1000000000000; omega, hg, Hp.keep H5⟩))
  · have ek : n - s.1 = 0 := by omega
    rw [ek, enGo] at hg
    exact Exists.intro () (And.intro (congrArg Value.bool hg.symm) (And.intro trivial (Hp.keep H2)))
/-- The least that serves, by halves. -/
def bsGo (f : Int → Bool) : Nat → Int → Int → Int
  | 0, lo, _ => lo
  | k + 1, lo, hi => if lo < hi then (if f (lo + (hi - lo) / 2) = true then bsGo f k lo (lo + (hi - lo) / 2) else bsGo f k (lo + (hi - lo) / 2 + 1) hi) else lo
def payV (p parts : Int) (n : Nat) : Int := bsGo (fun m => enGo parts m n p) (p + iM parts p).toNat 1 (p + iM parts p)
theorem payment (p parts b : Int) (n : Nat) (h : lvRight p parts b n = true) (h0 : 0 ≤ parts) : CB 151 [.int .i64 p, rateV parts b, .int .i64 n] (.tuple #[.int .i64 (payV p parts n), .nilIface]) := by
  intro w M I H
  have hh := h
  simp only [lvRight, Bool.and_eq_true, decide_eq_true_eq, coinB] at hh
  obtain ⟨hr, h1, ⟨_, h2⟩, h3, h4⟩ := hh
  have hb := iM_bd hr h0 (by omega) h2
  have eo : IntKind.i64.wrap (p + iM parts p) = p + iM parts p := i64w (by omega) (by omega)
  refine Exe.of_ev tok Tryz.call151 Tryz.func151 rfl rfl rfl ?_
  refine box_as H (rateC parts b) rfl fun r w1 H1 => ?_
  refine load_rule tok H1 (v := rateV parts b) rfl ?_
  refine call_rule H1 (fun M I _ hh => h ▸ levelRight p parts b n _ M I hh) fun _ w2 _ H2 => ?_
  refine load_rule tok H2 (v := rateV parts b) rfl ?_
  refine call_rule H2 (fun M I _ hh => month0 parts b p hr h0 (by omega) h2 _ M I hh) fun _ w3 _ H3 => ?_
  refine loop_rule tok (σ := Int × Int × Nat) 35184103660544 (fun s => [(10, .int .i64 s.1), (11, .int .i64 s.2.1)])
    (fun s w' => 1 ≤ s.1 ∧ s.2.1 ≤ 1100000000000 ∧ s.1 ≤ 1100000000001 ∧ s.2.1 - s.1 ≤ s.2.2 ∧ payV p parts n = bsGo (fun m => enGo parts m n p) s.2.2 s.1 s.2.1 ∧ Hp ⟨w, M, I⟩ [blk r (rateC parts b) 25] [] w') (fun s => s.2.2) (1, p + iM parts p, (p + iM parts p).toNat) rfl rfl ⟨rfl, congrArg (Value.int .i64) eo, trivial⟩
    ⟨by show (1 : Int) ≤ 1; omega, by show p + iM parts p ≤ 1100000000000; omega, by show (1 : Int) ≤ 1100000000001; omega, by show p + iM parts p - 1 ≤ ((p + iM parts p).toNat : Int); omega, rfl, Hp.keep H3⟩ ?_
  intro s j w4 hW
  have hs1 := hW.1
  have hs2 := hW.2.1
  have hs3 := hW.2.2.1
  have hs4 := hW.2.2.2.1
  have hg := hW.2.2.2.2.1
  have H4 := hW.2.2.2.2.2
  refine brd (fun hlt => ?_) (fun hge => ?_)
  · have ed : IntKind.i64.wrap (s.2.1 - s.1) = s.2.1 - s.1 := i64w (by omega) (by omega)
    have eq : IntKind.i64.wrap ((IntKind.i64.wrap (s.2.1 - s.1)).tdiv 2) = (s.2.1 - s.1) / 2 := by rw [ed, Int.tdiv_eq_ediv_of_nonneg (by omega)]; exact i64w (by omega) (by omega)
    have em : IntKind.i64.wrap (s.1 + (s.2.1 - s.1) / 2) = s.1 + (s.2.1 - s.1) / 2 := i64w (by omega) (by omega)
    have em1 : IntKind.i64.wrap (s.1 + (s.2.1 - s.1) / 2 + 1) = s.1 + (s.2.1 - s.1) / 2 + 1 := i64w (by omega) (by omega)
    have ek : s.2.2 = (s.2.2 - 1) + 1 := by omega
    rw [ek, bsGo, if_pos hlt] at hg
    refine quo_as ((s.2.1 - s.1) / 2) (by decide) eq ?_
    refine load_rule tok H4 (v := rateV parts b) rfl ?_
    refine call_rule H4 (fun M I _ hh => em.symm ▸ enough p parts b (s.1 + (s.2.1 - s.1) / 2) n (by omega) hr h0 (by omega) h2 (by omega) (by omega) _ M I hh) fun _ w5 _ H5 => ?_
    refine br (fun q => ?_) (fun q => ?_)
    · rw [em] at q
      rw [if_pos q] at hg
      exact Exists.intro (s.1, s.1 + (s.2.1 - s.1) / 2, s.2.2 - 1) (And.intro ⟨rfl, congrArg (Value.int .i64) em, trivial⟩ (And.intro (by show s.2.2 - 1 < s.2.2; omega) ⟨hs1, by show s.1 + (s.2.1 - s.1) / 2 ≤ 1100000000000; omega, hs3, by show s.1 + (s.2.1 - s.1) / 2 - s.1 ≤ ((s.2.2 - 1 : Nat) : Int); omega, hg, Hp.keep H5⟩))
    · rw [em] at q
      rw [if_neg (by rw [q]; simp)] at hg
      exact Exists.intro (s.1 + (s.2.1 - s.1) / 2 + 1, s.2.1, s.2.2 - 1) (And.intro ⟨congrArg (Value.int .i64) ((congrArg (fun x => IntKind.i64.wrap (x + 1)) em).trans em1), rfl, trivial⟩ (And.intro (by show s.2.2 - 1 < s.2.2; omega) ⟨by show 1 ≤ s.1 + (s.2.1 - s.1) / 2 + 1; omega, hs2, by show s.1 + (s.2.1 - s.1) / 2 + 1 ≤ 1100000000001; omega, by show s.2.1 - (s.1 + (s.2.1 - s.1) / 2 + 1) ≤ ((s.2.2 - 1 : Nat) : Int); omega, hg, Hp.keep H5⟩))
  · have e : payV p parts n = s.1 := by
      rw [hg]
      cases s.2.2 with
      | zero => rfl
      | succ k => rw [bsGo, if_neg hge]
    refine Exists.intro () (And.intro ?_ (And.intro trivial (Hp.keep H4)))
    show Value.tuple #[.int .i64 s.1, .nilIface] = _
    rw [e]
end Go.Proofs.YtjlfjjgjghdokaaGreatDoor
/- Month by month; sums from the first one on: the walks. -/
set_option linter.unusedVariables false
namespace Go.Proofs.YtjlfjjgjghdokaaGreatDoor
open Go Go.Proofs Go.Wk
theorem bsGo_in (f : Int → Bool) : ∀ (k : Nat) (lo hi : Int), lo ≤ hi → lo ≤ bsGo f k lo hi ∧ bsGo f k lo hi ≤ hi
  | 0, lo, hi, h => ⟨Int.le_refl _, h⟩
  | k + 1, lo, hi, h => by
    unfold bsGo
    split
    · split
      · have := bsGo_in f k lo (lo + (hi - lo) / 2) (by omega); omega
      · have := bsGo_in f k (lo + (hi - lo) / 2 + 1) hi (by omega); omega
    · exact ⟨Int.le_refl _, h⟩
theorem payV_in {p parts b : Int} {n : Nat} (hr : rateB parts b = true) (h0 : 0 ≤ parts) (h1 : 1 ≤ p) (h2 : p ≤ 1000000000000) : 1 ≤ payV p parts n ∧ payV p parts n ≤ p + iM parts p := by
  have := iM_bd hr h0 (by omega) h2
  exact bsGo_in _ _ _ _ (by omega)
/-- The months of a schedule. -/
def rowsGo (kind parts : Int) : Nat → Int → Int → List (Int × Int × Int)
  | 0, _, _ => []
  | k + 1, left, pay => mon3 parts left (if kind = 2 then iM parts left else pay) (k == 0) :: rowsGo kind parts k (mon3 parts left (if kind = 2 then iM parts left else pay) (k == 0)).2.2 (if kind = 2 then iM parts left else pay)
theorem rowsGo_len (kind parts : Int) : ∀ (k : Nat) (left pay : Int), (rowsGo kind parts k left pay).length = k
  | 0, _, _ => rfl
  | k + 1, left, pay => by rw [rowsGo, List.length_cons, rowsGo_len]
@[reducible] def r3ok (x : Int × Int × Int) : Prop := (0 ≤ x.1 ∧ x.1 ≤ 3000000000000) ∧ (-3000000000000 ≤ x.2.1 ∧ x.2.1 ≤ 3000000000000) ∧ (0 ≤ x.2.2 ∧ x.2.2 ≤ 3000000000000)
@[reducible] def row3R : Rp (Int × Int × Int) := ⟨3, Unit, fun x _ => row3C x, fun x _ => r3ok x, fun _ _ => [], fun _ _ => rfl⟩
/-- Left is not more than it was, asx long asx the interest is paid. -/
theorem mon3_dec {parts b left pay : Int} (hr : rateB parts b = true) (h0 : 0 ≤ parts) (hl : 0 ≤ left) (hl2 : left ≤ 1000000000000) (hp : 0 ≤ pay) (all : Bool) : (mon3 parts left pay all).2.2 ≤ left + iM parts left ∧ 0 ≤ (mon3 parts left pay all).2.2 ∧ (iM parts left ≤ pay → (mon3 parts left pay all).2.2 ≤ left) := by
  have := iM_bd hr h0 hl hl2
  refine ⟨?_, mon3_left hr h0 hl hl2 all, fun hpi => ?_⟩
  · unfold mon3
    split
    · show left + iM parts left - (left + iM parts left) ≤ _; omega
    · show left + iM parts left - pay ≤ _; omega
  · unfold mon3
    split
    · show left + iM parts left - (left + iM parts left) ≤ _; omega
    · show left + iM parts left - pay ≤ _; omega
theorem mon3_ok {parts b left pay : Int} (hr : rateB parts b = true) (h0 : 0 ≤ parts) (hl : 0 ≤ left) (hl2 : left ≤ 1000000000000) (hp : 0 ≤ pay) (hp2 : pay ≤ 1100000000000) (all : Bool) : r3ok (mon3 parts left pay all) := by
  have := iM_bd hr h0 hl hl2
  unfold mon3
  split
  · exact ⟨⟨this.1, by show iM parts left ≤ _; omega⟩, ⟨by show _ ≤ left + iM parts left - iM parts left; omega, by show left + iM parts left - iM parts left ≤ _; omega⟩, by show 0 ≤ left + iM parts left - (left + iM parts left); omega, by show left + iM parts left - (left + iM parts left) ≤ _; omega⟩
  · rename_i h
    have h : ¬ left + iM parts left < pay := fun e => h (.inr e)
    exact ⟨⟨this.1, by show iM parts left ≤ _; omega⟩, ⟨by show _ ≤ pay - iM parts left; omega, by show pay - iM parts left ≤ _; omega⟩, by show 0 ≤ left + iM parts left - pay; omega, by show left + iM parts left - pay ≤ _; omega⟩
theorem rowPay (x : Int × Int × Int) (h : r3ok x) : CB 154 [row3V x] (.int .i64 (x.1 + x.2.1)) := by
  intro w M I H
  have h1 := h.1
  have h2 := h.2.1
  have e : IntKind.i64.wrap (x.1 + x.2.1) = x.1 + x.2.1 := i64w (by omega) (by omega)
  refine Exe.of_ev tok Tryz.call154 Tryz.func154 rfl rfl rfl ?_
  refine box_as H (row3C x) rfl fun r w1 H1 => ?_
  refine load_rule tok H1 (v := .int .i64 x.1) rfl ?_
  refine load_rule tok H1 (v := .int .i64 x.2.1) rfl ?_
  exact Exists.intro () (And.intro (congrArg (Value.int .i64) e) (And.intro trivial (Hp.keep H1)))
def sumsGo : Int → List (Int × Int × Int) → List Int
  | _, [] => []
  | s, x :: r => (s + (x.1 + x.2.1)) :: sumsGo (s + (x.1 + x.2.1)) r
@[reducible] def i64C (x : Int) : List Value := [.int .i64 x]
def tot : Int → List (Int × Int × Int) → Int
  | s, [] => s
  | s, x :: r => tot (s + (x.1 + x.2.1)) r
theorem tot_snoc : ∀ (l : List (Int × Int × Int)) (s : Int) (x : Int × Int × Int), tot s (l ++ [x]) = tot s l + (x.1 + x.2.1)
  | [], _, _ => rfl
  | y :: r, s, x => by simp only [List.cons_append, tot]; exact tot_snoc r _ x
theorem sums_snoc : ∀ (l : List (Int × Int × Int)) (s : Int) (x : Int × Int × Int), sumsGo s (l ++ [x]) = sumsGo s l ++ [tot s l + (x.1 + x.2.1)]
  | [], s, x => rfl
  | y :: r, s, x => by simp only [List.cons_append, sumsGo, tot]; rw [sums_snoc r]
theorem tot_bd : ∀ (l : List (Int × Int × Int)) (s : Int) (n : Nat), (∀ x, x ∈ l → r3ok x) → -(6000000000000 * (n : Int)) ≤ s → s ≤ 6000000000000 * (n : Int) → -(6000000000000 * ((n + l.length : Nat) : Int)) ≤ tot s l ∧ tot s l ≤ 6000000000000 * ((n + l.length : Nat) : Int)
  | [], s, n, _, h1, h2 => ⟨h1, h2⟩
  | x :: r, s, n, h, h1, h2 => by
    have hx := h x List.mem_cons_self
    have := tot_bd r (s + (x.1 + x.2.1)) (n + 1) (fun y hy => h y (List.mem_cons_of_mem _ hy)) (by obtain ⟨⟨a, b⟩, ⟨c, d⟩, _⟩ := hx; omega) (by obtain ⟨⟨a, b⟩, ⟨c, d⟩, _⟩ := hx; omega)
    rw [show n + (x :: r).length = n + 1 + r.length by simp; omega]
    exact this
theorem sumsGo_bd : ∀ (l : List (Int × Int × Int)) (s : Int) (n : Nat), (∀ x, x ∈ l → r3ok x) → -(6000000000000 * (n : Int)) ≤ s → s ≤ 6000000000000 * (n : Int) → ∀ y, y ∈ sumsGo s l → -(6000000000000 * ((n + l.length : Nat) : Int)) ≤ y ∧ y ≤ 6000000000000 * ((n + l.length : Nat) : Int)
  | [], _, _, _, _, _, y, h => by cases h
  | x :: r, s, n, h, h1, h2, y, hy => by
    obtain ⟨⟨a, b⟩, ⟨c, d⟩, _⟩ := h x List.mem_cons_self
    rcases List.mem_cons.1 hy with rfl | hy
    · simp only [List.length_cons]; omega
    · have := sumsGo_bd r (s + (x.1 + x.2.1)) (n + 1) (fun y hy => h y (List.mem_cons_of_mem _ hy)) (by omega) (by omega) y hy
      rw [show n + (x :: r).length = n + 1 + r.length by simp; omega]
      exact this
set_option maxRecDepth 20000 in
theorem sums (A : Option Addr) (n c : Nat) (xs : List (Int × Int × Int)) (hn : n ≤ 1000) (w : World) (M I : BS) (hM : ∀ b, ¬ M b) (H : Hp ⟨w, M, I⟩ [] [Sl row3R (.slice A n c) xs] w) :
    Ctr Tryz.prog 88 [.slice A n c] w M I (fun a : SV => .slice a.A a.n a.c) (fun _ => True) (fun _ => []) (fun a => [Sl (Go.Wk.intR .i64) (.slice a.A a.n a.c) (sumsGo 0 xs)]) := by
  obtain ⟨hnl, hc, hc2⟩ := H.sll (A := A) (n := n) (c := c)
  have hok : ∀ x, x ∈ xs → r3ok x := fun x hx => by
    obtain ⟨I2, fp, _, ha, _⟩ := H.ex
    obtain ⟨A', c', _, _, _, _, hel⟩ := ha _ List.mem_cons_self
    obtain ⟨i, hi⟩ := List.mem_iff_getElem?.1 hx
    obtain ⟨b, o, _, _, p, hok, _⟩ := hel i x hi
    exact hok
  have H0 : Hp ⟨w, M, I⟩ [row 22 1 (.slice none 0 0) 0 (flatL i64C [])] [Sl row3R (.slice A n c) xs] w := Hp.nil H 22 1
  refine Exe.of_ev tok Tryz.call88 Tryz.func88 rfl rfl rfl ?_
  refine loop_rule tok (σ := Nat × SV) 4193880 (fun s => [(3, .slice s.2.A s.1 s.2.c), (4, .int .i64 (tot 0 (xs.take s.1))), (9, .int .i64 (s.1 : Int))])
    (fun s w' => s.1 ≤ n ∧ Hp ⟨w, M, I⟩ [row 22 1 (.slice s.2.A s.1 s.2.c) s.1 (flatL i64C (sumsGo 0 (xs.take s.1)))] [Sl row3R (.slice A n c) xs] w') (fun s => n - s.1) (0, ⟨none, 0, 0⟩) rfl rfl ⟨rfl, rfl, rfl, trivial⟩ ⟨Nat.zero_le _, H0⟩ ?_
  intro s j w1 hW
  have hi := hW.1
  have H1 := hW.2
  refine brd (fun hlt => ?_) (fun hge => ?_)
  · have ew : IntKind.i64.wrap ((s.1 : Int) + 1) = ((s.1 + 1 : Nat) : Int) := i64w (by omega) (by omega)
    refine idx_rule tok H1 rfl rfl rfl (by omega) hlt fun eb eo x hx H2 => ?_
    have hx' : xs[s.1]? = some x := by simpa using hx
    have htk : xs.take (s.1 + 1) = xs.take s.1 ++ [x] := by rw [List.take_add_one, hx']; rfl
    have hxo := hok x (List.mem_of_getElem? hx')
    have hb := tot_bd (xs.take (s.1 + 1)) 0 0 (fun y hy => hok y (List.mem_of_mem_take hy)) (by omega) (by omega)
    have hlen : (xs.take (s.1 + 1)).length ≤ 1000 := by rw [List.length_take]; omega
    have es : IntKind.i64.wrap (tot 0 (xs.take s.1) + (x.1 + x.2.1)) = tot 0 (xs.take (s.1 + 1)) := by
      have hlen2 := hlen
      rw [htk] at hlen2
      rw [htk, tot_snoc] at hb ⊢
      exact i64w (by omega) (by omega)
    refine ldp_rule tok H2 rfl rfl rfl fun _ _ H3 => ?_
    refine alloc_as tok H3 (row3C (0, 0, 0)) rfl rfl rfl fun o w2 H4 => ?_
    refine store_as tok H4 (row3C x) rfl rfl rfl rfl rfl fun w3 H5 => ?_
    refine load_rule tok H5 (v := row3V x) rfl ?_
    refine call_rule H5 (fun M I _ h => rowPay x hxo _ M I h) fun _ w4 _ H6 => ?_
    refine slice_as tok H6 (i64C (IntKind.i64.wrap (tot 0 (xs.take s.1) + (x.1 + x.2.1)))) rfl rfl rfl rfl rfl rfl fun g w5 H7 => ?_
    refine append_rule (v := .slice s.2.A s.1 s.2.c) (b := g) (m := 1) (c := 1) tok H7 rfl rfl rfl rfl rfl rfl rfl rfl (by show (s.1 + 1) * 8 ≤ _; omega) (by omega) fun A2 c2 w6 H8 => ?_
    have e8 : flatL i64C (sumsGo 0 (xs.take s.1)) ++ i64C (IntKind.i64.wrap (tot 0 (xs.take s.1) + (x.1 + x.2.1))) = flatL i64C (sumsGo 0 (xs.take (s.1 + 1))) := by
      rw [es, htk, sums_snoc, flatL_snoc, tot_snoc]
    rw [e8] at H8
    exact Exists.intro (s.1 + 1, ⟨A2, 0, c2⟩) (And.intro ⟨rfl, congrArg (Value.int .i64) es, congrArg (Value.int .i64) ew, trivial⟩ (And.intro (by show n - (s.1 + 1) < n - s.1; omega) ⟨by show s.1 + 1 ≤ n; omega, Hp.keep H8⟩))
  · have e : s.1 = n := by omega
    have et : xs.take s.1 = xs := by rw [e, hnl]; exact List.take_length
    rw [et] at H1
    have H2 := Hp.frzFlat (v := .slice s.2.A s.1 s.2.c) H1 1 i64C (fun _ => rfl) (fun x => inK .i64 x) hM (by decide) (fun x hx => ?_)
    · exact Exists.intro ⟨s.2.A, s.1, s.2.c⟩ (And.intro rfl (And.intro trivial (Hp.keep H2)))
    · have hlen : xs.length ≤ 1000 := by omega
      have := sumsGo_bd xs 0 0 hok (by omega) (by omega) x hx
      exact ⟨by show (-9223372036854775808 : Int) ≤ x; omega, by show x ≤ (9223372036854775807 : Int); omega⟩
end Go.Proofs.YtjlfjjgjghdokaaGreatDoor
/- A schedule month by month: the walk. -/
set_option linter.unusedVariables false
namespace Go.Proofs.YtjlfjjgjghdokaaGreatDoor
open Go Go.Proofs Go.Wk
theorem bsGo_true (f : Int → Bool) : ∀ (k : Nat) (lo hi : Int), lo ≤ hi → hi - lo ≤ k → f hi = true → f (bsGo f k lo hi) = true
  | 0, lo, hi, h1, h2, h3 => by
    have e : hi = lo := by omega
    rw [bsGo, ← e]; exact h3
  | k + 1, lo, hi, h1, h2, h3 => by
    unfold bsGo
    split
    · split
      · rename_i h
        exact bsGo_true f k lo _ (by omega) (by omega) h
      · exact bsGo_true f k _ hi (by omega) (by omega) h3
    · have e : hi = lo := by omega
      rw [← e]; exact h3
theorem iM_zero (parts : Int) : iM parts 0 = 0 := by
  unfold iM monN roundN
  simp
theorem enGo_zero (parts pay : Int) : ∀ k, enGo parts pay k 0 = true
  | 0 => rfl
  | k + 1 => by rw [enGo, if_pos rfl]
theorem enGo_pay {p parts b : Int} {n : Nat} (hr : rateB parts b = true) (h0 : 0 ≤ parts) (h1 : 1 ≤ p) (h2 : p ≤ 1000000000000) (hn : 1 ≤ n) : enGo parts (payV p parts n) n p = true := by
  have hb := iM_bd hr h0 (by omega) h2
  refine bsGo_true (fun m => enGo parts m n p) _ 1 (p + iM parts p) (by omega) (by omega) ?_
  show enGo parts (p + iM parts p) n p = true
  obtain ⟨m, rfl⟩ : ∃ m, n = m + 1 := ⟨n - 1, by omega⟩
  have e : (mon3 parts p (p + iM parts p) false).2.2 = 0 := by
    unfold mon3
    split
    · show p + iM parts p - (p + iM parts p) = 0; omega
    · show p + iM parts p - (p + iM parts p) = 0; omega
  rw [enGo, if_neg (by omega), e, if_neg (by omega), enGo_zero]
structure Jv (kind parts : Int) (r : Nat) (left pay : Int) : Prop where
  l0 : 0 ≤ left
  l1 : left ≤ 1000000000000
  p0 : 0 ≤ pay
  p1 : pay ≤ 1100000000000
  k : kind = 2 ∨ (1 ≤ pay ∧ enGo parts pay r left = true)
theorem Jv.step {kind parts b : Int} {r : Nat} {left pay : Int} (hr : rateB parts b = true) (h0 : 0 ≤ parts) (h : Jv kind parts (r + 1) left pay) :
    (0 ≤ (if kind = 2 then iM parts left else pay) ∧ (if kind = 2 then iM parts left else pay) ≤ 1100000000000) ∧ r3ok (mon3 parts left (if kind = 2 then iM parts left else pay) (r == 0)) ∧
    Jv kind parts r (mon3 parts left (if kind = 2 then iM parts left else pay) (r == 0)).2.2 (if kind = 2 then iM parts left else pay) := by
  have hb := iM_bd hr h0 h.l0 h.l1
  have hl1 := h.l1
  by_cases hk : kind = 2
  · simp only [if_pos hk]
    have hd := mon3_dec (pay := iM parts left) hr h0 h.l0 h.l1 hb.1 (r == 0)
    exact ⟨⟨hb.1, by omega⟩, mon3_ok hr h0 h.l0 h.l1 hb.1 (by omega) _, hd.2.1, by have := hd.2.2 (Int.le_refl _); omega, hb.1, by omega, .inl hk⟩
  · simp only [if_neg hk]
    obtain ⟨hp, he⟩ := h.k.resolve_left hk
    have hd := mon3_dec (pay := pay) hr h0 h.l0 h.l1 h.p0 (r == 0)
    refine ⟨⟨h.p0, h.p1⟩, mon3_ok hr h0 h.l0 h.l1 h.p0 h.p1 _, hd.2.1, ?_, h.p0, h.p1, .inr ⟨hp, ?_⟩⟩
    all_goals
      rw [enGo] at he
      cases hr0 : (r == 0) with
      | true => ?_
      | false => ?_
    · have e : (mon3 parts left pay true).2.2 = 0 := by
        unfold mon3; rw [if_pos (.inl rfl)]; show left + iM parts left - (left + iM parts left) = 0; omega
      rw [e]; omega
    · by_cases hz : left = 0
      · have e : (mon3 parts left pay false).2.2 = 0 := by
          unfold mon3; rw [hz, iM_zero, if_pos (.inr (by omega))]; rfl
        rw [e]; omega
      · rw [if_neg hz] at he
        split at he
        · cases he
        · omega
    · have e : (mon3 parts left pay true).2.2 = 0 := by
        unfold mon3; rw [if_pos (.inl rfl)]; show left + iM parts left - (left + iM parts left) = 0; omega
      rw [e]; exact enGo_zero _ _ _
    · by_cases hz : left = 0
      · have e : (mon3 parts left pay false).2.2 = 0 := by
          unfold mon3; rw [hz, iM_zero, if_pos (.inr (by omega))]; rfl
        rw [e]; exact enGo_zero _ _ _
      · rw [if_neg hz] at he
        split at he
        · cases he
        · exact he
theorem Jv.start {kind parts b p : Int} {n : Nat} (h : lvRight p parts b n = true) (h0 : 0 ≤ parts) : Jv kind parts n p (payV p parts n) := by
  simp only [lvRight, Bool.and_eq_true, decide_eq_true_eq, coinB] at h
  obtain ⟨hr, h1, ⟨_, h2⟩, h3, h4⟩ := h
  have hb := iM_bd hr h0 (by omega) h2
  have hp := payV_in (n := n) hr h0 h1 h2
  exact ⟨by omega, h2, by omega, by omega, .inr ⟨hp.1, enGo_pay hr h0 h1 h2 (by omega)⟩⟩
theorem lvName_ne {k : Int} (h : k = 1 ∨ k = 2) : ((lvName k).toList == (⟨#[]⟩ : ByteArray).toList) = false := by
  rcases h with rfl | rfl <;> decide +kernel
set_option maxRecDepth 20000 in
set_option maxHeartbeats 1000000 in
theorem rows (kind p parts b : Int) (n : Nat) (hk : kind = 1 ∨ kind = 2) (h : lvRight p parts b n = true) (h0 : 0 ≤ parts) (w : World) (M I : BS) (hM : ∀ b, ¬ M b) (H : Hp ⟨w, M, I⟩ [] [] w) :
    Ctr Tryz.prog 87 [.int .u8 kind, .int .i64 p, rateV parts b, .int .i64 n] w M I (fun a : SV => .tuple #[.slice a.A a.n a.c, .nilIface]) (fun _ => True) (fun _ => []) (fun a => [Sl row3R (.slice a.A a.n a.c) (rowsGo kind parts n p (payV p parts n))]) := by
  have hh := h
  simp only [lvRight, Bool.and_eq_true, decide_eq_true_eq, coinB] at hh
  obtain ⟨hr, _, _, h3, h4⟩ := hh
  refine Exe.of_ev tok Tryz.call87 Tryz.func87 rfl rfl rfl ?_
  refine box_as H (rateC parts b) rfl fun r w1 H1 => ?_
  refine call_rule H1 (fun M I _ h => levelName kind _ M I h) fun _ w2 _ H2 => ?_
  refine br (fun q => ?_) (fun _ => ?_)
  · exfalso
    have q : ((lvName kind).toList == (⟨#[]⟩ : ByteArray).toList) = true := q
    rw [lvName_ne hk] at q; cases q
  refine load_rule tok H2 (v := rateV parts b) rfl ?_
  refine call_rule H2 (fun M I _ hh => payment p parts b n h h0 _ M I hh) fun _ w3 _ H3 => ?_
  have H3 : Hp ⟨w, M, I⟩ [row 271 3 (.slice none 0 0) 0 (flatL row3C []), blk r (rateC parts b) 25] [] w3 := Hp.nil H3 271 3
  refine loop_rule tok (σ := Nat × List (Int × Int × Int) × Int × Int × SV) 144115185928434688 (fun s => [(10, .int .i64 s.2.2.2.1), (12, .slice s.2.2.2.2.A s.2.1.length s.2.2.2.2.c), (13, .int .i64 s.2.2.1), (14, .int .i64 ((s.2.1.length : Int) + 1))])
    (fun s w' => s.2.1.length + s.1 = n ∧ rowsGo kind parts n p (payV p parts n) = s.2.1 ++ rowsGo kind parts s.1 s.2.2.1 s.2.2.2.1 ∧ (∀ x, x ∈ s.2.1 → r3ok x) ∧ Jv kind parts s.1 s.2.2.1 s.2.2.2.1 ∧ Hp ⟨w, M, I⟩ [row 271 3 (.slice s.2.2.2.2.A s.2.1.length s.2.2.2.2.c) s.2.1.length (flatL row3C s.2.1), blk r (rateC parts b) 25] [] w') (fun s => s.1) (n, [], p, payV p parts n, ⟨none, 0, 0⟩) rfl rfl ⟨rfl, rfl, rfl, rfl, trivial⟩
    ⟨by simp, rfl, (fun x hx => by cases hx), Jv.start h h0, H3⟩ ?_
  intro s j w4 hW
  have hlen := hW.1
  have hg := hW.2.1
  have hok := hW.2.2.1
  have hJ := hW.2.2.2.1
  have H4 := hW.2.2.2.2
  refine brd (fun hlt => ?_) (fun hge => ?_)
  · have ek : s.1 = (s.1 - 1) + 1 := by omega
    have hJ := ek ▸ hJ
    have hst := Jv.step hr h0 hJ
    have hpb := hst.1
    rw [ek, rowsGo] at hg
    have ew : IntKind.i64.wrap ((s.2.1.length : Int) + 1 + 1) = (((s.2.1.length + 1 : Nat) : Int) + 1) := by rw [i64w (by omega) (by omega)]; omega
    have eall : ((s.2.1.length : Int) + 1 == (n : Int)) = (s.1 - 1 == 0) := by
      by_cases e : s.1 - 1 = 0
      · rw [e]; simp; omega
      · have : (s.1 - 1 == 0) = false := by simpa using e
        rw [this]; simp; omega
    refine br (fun q => ?_) (fun q => ?_)
    · have q : kind = 2 := by have q : (kind == 2) = true := q; simpa using q
      simp only [if_pos q] at hst hg hpb
      refine load_rule tok H4 (v := rateV parts b) rfl ?_
      refine call_rule H4 (fun M I _ hh => month0 parts b s.2.2.1 hr h0 hJ.l0 hJ.l1 _ M I hh) fun _ w5 _ H5 => ?_
      refine load_rule tok H5 (v := rateV parts b) rfl ?_
      refine call_rule H5 (fun M I _ hh => eall ▸ month3 parts b s.2.2.1 (iM parts s.2.2.1) (s.1 - 1 == 0) hr h0 hJ.l0 hJ.l1 hpb.1 (by omega) _ M I hh) fun _ w6 _ H6 => ?_
      refine Exists.elim (⟨_, rfl⟩ : ∃ W, W = mon3 parts s.2.2.1 (iM parts s.2.2.1) (s.1 - 1 == 0)) fun W hWe => ?_
      rw [← hWe] at hst hg
      refine alloc_as tok H6 (row3C (0, 0, 0)) rfl rfl rfl fun o w7 H7 => ?_
      refine store_as tok H7 (row3C (mon3 parts s.2.2.1 (iM parts s.2.2.1) ((s.2.1.length : Int) + 1 == (n : Int)))) rfl rfl rfl rfl rfl fun w8 H8 => ?_
      rw [eall, ← hWe] at H8
      have hn1 : s.2.1.length + 1 ≤ 480 := by omega
      refine draw_rule (A := [row 271 3 (.slice s.2.2.2.2.A s.2.1.length s.2.2.2.2.c) s.2.1.length (flatL row3C s.2.1)]) tok tdr H8 [0, 1, 2, 3, 4, 5, 6, 7] [0, 0, 2, 7, 0, 16, 15, 127] rfl ?_
      refine pass_rule _ (fun w h => load_rule tok h (v := row3V W) rfl ⟨rfl, rfl⟩) ?_
      refine fresh_slice tok (row3C W) rfl rfl rfl rfl rfl rfl rfl fun g => ?_
      refine imp_rule (fun X wx h => append_rule (v := .slice s.2.2.2.2.A s.2.1.length s.2.2.2.2.c) (b := g) (m := 1) (c := 1) tok h rfl rfl rfl rfl rfl rfl rfl rfl (by show (s.2.1.length + 1) * 24 ≤ _; omega) (by omega) fun A2 c2 w1 H1 => imp_done H1 ?_)
      refine pass_rule _ (fun w h => load_rule tok h (v := .int .i64 W.2.2) rfl ⟨rfl, rfl⟩) ?_
      refine done_rule fun w9 H9 => ?_
      have el : (s.2.1 ++ [W]).length = s.2.1.length + 1 := by simp
      have H10 : Hp ⟨w, M, I⟩ [row 271 3 (.slice A2 (s.2.1.length + 1) c2) (s.2.1.length + 1) (flatL row3C s.2.1 ++ row3C W), blk r (rateC parts b) 25] [] w9 := Hp.keep H9
      rw [← flatL_snoc, ← el] at H10
      refine Exists.intro (s.1 - 1, s.2.1 ++ [W], W.2.2, iM parts s.2.2.1, ⟨A2, 0, c2⟩) (And.intro ⟨rfl, congrArg (fun k => Value.slice A2 k c2) el.symm, rfl, congrArg (Value.int .i64) (by rw [ew, el]), trivial⟩ (And.intro (by show s.1 - 1 < s.1; omega) ⟨by show (s.2.1 ++ [W]).length + (s.1 - 1) = n; omega, ?_, ?_, hst.2.2, H10⟩))
      · rw [hg]; simp
      · intro x hx
        rcases List.mem_append.1 hx with hx | hx
        · exact hok x hx
        · rw [List.mem_singleton] at hx
          rw [hx]; exact hst.2.1
    · have q : ¬ kind = 2 := by have q : (kind == 2) = false := q; simpa using q
      simp only [if_neg q] at hst hg hpb
      refine load_rule tok H4 (v := rateV parts b) rfl ?_
      refine call_rule H4 (fun M I _ hh => eall ▸ month3 parts b s.2.2.1 (s.2.2.2.1) (s.1 - 1 == 0) hr h0 hJ.l0 hJ.l1 hpb.1 (by omega) _ M I hh) fun _ w6 _ H6 => ?_
      refine Exists.elim (⟨_, rfl⟩ : ∃ W, W = mon3 parts s.2.2.1 (s.2.2.2.1) (s.1 - 1 == 0)) fun W hWe => ?_
      rw [← hWe] at hst hg
      refine alloc_as tok H6 (row3C (0, 0, 0)) rfl rfl rfl fun o w7 H7 => ?_
      refine store_as tok H7 (row3C (mon3 parts s.2.2.1 (s.2.2.2.1) ((s.2.1.length : Int) + 1 == (n : Int)))) rfl rfl rfl rfl rfl fun w8 H8 => ?_
      rw [eall, ← hWe] at H8
      have hn1 : s.2.1.length + 1 ≤ 480 := by omega
      refine draw_rule (A := [row 271 3 (.slice s.2.2.2.2.A s.2.1.length s.2.2.2.2.c) s.2.1.length (flatL row3C s.2.1)]) tok tdr H8 [0, 1, 2, 3, 4, 5, 6, 7] [0, 0, 2, 7, 0, 16, 15, 127] rfl ?_
      refine pass_rule _ (fun w h => load_rule tok h (v := row3V W) rfl ⟨rfl, rfl⟩) ?_
      refine fresh_slice tok (row3C W) rfl rfl rfl rfl rfl rfl rfl fun g => ?_
      refine imp_rule (fun X wx h => append_rule (v := .slice s.2.2.2.2.A s.2.1.length s.2.2.2.2.c) (b := g) (m := 1) (c := 1) tok h rfl rfl rfl rfl rfl rfl rfl rfl (by show (s.2.1.length + 1) * 24 ≤ _; omega) (by omega) fun A2 c2 w1 H1 => imp_done H1 ?_)
      refine pass_rule _ (fun w h => load_rule tok h (v := .int .i64 W.2.2) rfl ⟨rfl, rfl⟩) ?_
      refine done_rule fun w9 H9 => ?_
      have el : (s.2.1 ++ [W]).length = s.2.1.length + 1 := by simp
      have H10 : Hp ⟨w, M, I⟩ [row 271 3 (.slice A2 (s.2.1.length + 1) c2) (s.2.1.length + 1) (flatL row3C s.2.1 ++ row3C W), blk r (rateC parts b) 25] [] w9 := Hp.keep H9
      rw [← flatL_snoc, ← el] at H10
      refine Exists.intro (s.1 - 1, s.2.1 ++ [W], W.2.2, s.2.2.2.1, ⟨A2, 0, c2⟩) (And.intro ⟨rfl, congrArg (fun k => Value.slice A2 k c2) el.symm, rfl, congrArg (Value.int .i64) (by rw [ew, el]), trivial⟩ (And.intro (by show s.1 - 1 < s.1; omega) ⟨by show (s.2.1 ++ [W]).length + (s.1 - 1) = n; omega, ?_, ?_, hst.2.2, H10⟩))
      · rw [hg]; simp
      · intro x hx
        rcases List.mem_append.1 hx with hx | hx
        · exact hok x hx
        · rw [List.mem_singleton] at hx
          rw [hx]; exact hst.2.1
  · have e0 : s.1 = 0 := by omega
    have en : s.2.1.length = n := by omega
    rw [e0, rowsGo, List.append_nil] at hg
    have H5 := Hp.frzFlat (v := .slice s.2.2.2.2.A s.2.1.length s.2.2.2.2.c) H4 3 row3C (fun _ => rfl) r3ok hM (by decide) hok
    refine Exists.intro ⟨s.2.2.2.2.A, s.2.1.length, s.2.2.2.2.c⟩ (And.intro rfl (And.intro trivial ?_))
    rw [hg]
    exact Hp.keep H5
end Go.Proofs.YtjlfjjgjghdokaaGreatDoor
