/- 128 bits by 64: the walk. -/
import Derived.Test.YtgbmambkgcjhfaaGreatDoorD5
import Derived.Test.YtgbmambkgcjhfaaGreatDoorK8
import Derived.Test.YtgbmambkgcjhfaaGreatDoorS1
import Derived.Test.YtgbmambkgcjhfaaGreatDoorP2
set_option linter.unusedVariables false
namespace Go.Proofs.YtgbmambkgcjhfaaGreatDoor
open Go Go.Proofs Go.Wk
theorem u64w (x : Int) : IntKind.u64.wrap x = x % 18446744073709551616 := by simp [IntKind.wrap, IntKind.signed, IntKind.bits]
theorem u64n {x : Nat} (h : x < 18446744073709551616) : IntKind.u64.wrap (x : Int) = x := by rw [u64w]; omega
theorem shl64 (x s : Nat) (hs : s ≤ 64) : IntKind.u64.wrap ((x : Int) * 2 ^ min ((s : Int)).toNat IntKind.u64.bits) = ((x * 2 ^ s % 18446744073709551616 : Nat) : Int) := by
  rw [Int.toNat_natCast, Nat.min_eq_left (by show s ≤ 64; omega), u64w]
  have : ((2 : Int) ^ s) = ((2 ^ s : Nat) : Int) := by simp
  rw [this, ← Int.natCast_mul]
  omega
theorem low32 (x : Nat) (h : x < 18446744073709551616) : IntKind.u64.wrap (BitVec.ofInt IntKind.u64.bits (x : Int) &&& BitVec.ofInt IntKind.u64.bits 4294967295).toNat = ((x % 4294967296 : Nat) : Int) := by
  have h1 : (BitVec.ofNat 64 x &&& BitVec.ofNat 64 4294967295).toNat = x % 4294967296 := by
    rw [BitVec.toNat_and, BitVec.toNat_ofNat, BitVec.toNat_ofNat, Nat.mod_eq_of_lt h]
    exact Nat.and_two_pow_sub_one_eq_mod x 32
  have h2 : (BitVec.ofInt IntKind.u64.bits (x : Int) &&& BitVec.ofInt IntKind.u64.bits 4294967295).toNat = x % 4294967296 := h1
  rw [h2, u64n (by omega)]
theorem or_high (a s b : Nat) (h : a * 2 ^ s + b < 18446744073709551616) (hb : b < 2 ^ s) : IntKind.u64.wrap (BitVec.ofInt IntKind.u64.bits ((a * 2 ^ s : Nat) : Int) ||| BitVec.ofInt IntKind.u64.bits (b : Int)).toNat = ((a * 2 ^ s + b : Nat) : Int) := by
  have h1 : (BitVec.ofNat 64 (a * 2 ^ s) ||| BitVec.ofNat 64 b).toNat = a * 2 ^ s + b := by
    rw [BitVec.toNat_or, BitVec.toNat_ofNat, BitVec.toNat_ofNat, Nat.mod_eq_of_lt (by omega), Nat.mod_eq_of_lt (by omega)]
    have := Nat.shiftLeft_add_eq_or_of_lt (i := s) (b := b) hb a
    rw [Nat.shiftLeft_eq] at this
    exact this.symm
  have h2 : (BitVec.ofInt IntKind.u64.bits ((a * 2 ^ s : Nat) : Int) ||| BitVec.ofInt IntKind.u64.bits (b : Int)).toNat = a * 2 ^ s + b := h1
  rw [h2, u64n h]
theorem leading (y : Nat) (h : y < 18446744073709551616) : CB 200 [.int .u64 y] (.int .i64 (64 - (Lib.bitLen y : Int))) := fun w M I H =>
  Ctr.of_below H Tryz.call200 ((Tryz.bits_LeadingZeros64 (y : Int) w (by omega) (by omega)).mono fun e w' h => ⟨(), by rw [h.1, Int.toNat_natCast], trivial, by rw [h.2]; exact Go.RowKit.Below.refl _ _⟩)
theorem tdiv_nat (a b : Nat) : ((a : Int)).tdiv b = ((a / b : Nat) : Int) := rfl
theorem tmod_nat (a b : Nat) : ((a : Int)).tmod b = ((a % b : Nat) : Int) := rfl
/-- The pieces of the dividend, shifted. -/
structure Cut (hi lo y s : Nat) (yn u n1 n0 : Nat) : Prop where
  yn1 : 9223372036854775808 ≤ yn
  yn2 : yn < 18446744073709551616
  yne : yn = y * 2 ^ s
  u1 : u < yn
  n1b : n1 < 4294967296
  n0b : n0 < 4294967296
  all : (hi * 18446744073709551616 + lo) * 2 ^ s = (u * 4294967296 + n1) * 4294967296 + n0
theorem cut_ok {hi lo y : Nat} (h1 : hi < y) (h2 : lo < 18446744073709551616) (h3 : y < 18446744073709551616) {s : Nat} (hs : s = 64 - Lib.bitLen y) :
    Cut hi lo y s (y * 2 ^ s) (hi * 2 ^ s + lo / 2 ^ (64 - s)) (lo * 2 ^ s % 18446744073709551616 / 4294967296) (lo * 2 ^ s % 18446744073709551616 % 4294967296) := by
  have hn := norm_ok (y := y) (by omega) h3
  rw [← hs] at hn
  have hs64 : s ≤ 64 := by omega
  have hsp : 2 ^ s * 2 ^ (64 - s) = 18446744073709551616 := by rw [← Nat.pow_add, show s + (64 - s) = 64 by omega]
  have hp : 0 < 2 ^ (64 - s) := Nat.pow_pos (by omega)
  have hp2 : 0 < 2 ^ s := Nat.pow_pos (by omega)
  have hlo : lo / 2 ^ (64 - s) < 2 ^ s := by rw [Nat.div_lt_iff_lt_mul hp, hsp]; exact h2
  have hm : (hi + 1) * 2 ^ s ≤ y * 2 ^ s := Nat.mul_le_mul_right _ h1
  rw [Nat.add_mul, Nat.one_mul] at hm
  have hsplit : lo * 2 ^ s = lo / 2 ^ (64 - s) * 18446744073709551616 + lo * 2 ^ s % 18446744073709551616 := by
    have h4 : lo * 2 ^ s / 18446744073709551616 = lo / 2 ^ (64 - s) := by
      rw [← hsp, Nat.mul_comm (2 ^ s), Nat.mul_div_mul_right _ _ hp2]
    have h5 := Nat.div_add_mod (lo * 2 ^ s) 18446744073709551616
    rw [h4] at h5
    omega
  refine ⟨hn.1, hn.2, rfl, by omega, by omega, by omega, ?_⟩
  have e1 : (hi * 18446744073709551616 + lo) * 2 ^ s = hi * 2 ^ s * 18446744073709551616 + lo * 2 ^ s := by
    rw [Nat.add_mul, Nat.mul_right_comm]
  rw [e1, hsplit]
  have h6 := Nat.mod_lt (lo * 2 ^ s) (show 18446744073709551616 > 0 by omega)
  omega
theorem digits2 {hi lo y s yn u n1 n0 : Nat} (c : Cut hi lo y s yn u n1 n0) : (hi * 18446744073709551616 + lo) / y = (u * 4294967296 + n1) / yn * 4294967296 + ((u * 4294967296 + n1) % yn * 4294967296 + n0) / yn ∧
    (hi * 18446744073709551616 + lo) % y = ((u * 4294967296 + n1) % yn * 4294967296 + n0) % yn / 2 ^ s := by
  have hp2 : 0 < 2 ^ s := Nat.pow_pos (by omega)
  have hyn : 0 < yn := by have := c.yn1; omega
  have e1 : (hi * 18446744073709551616 + lo) / y = ((u * 4294967296 + n1) * 4294967296 + n0) / yn := by
    rw [← c.all, c.yne, Nat.mul_div_mul_right _ _ hp2]
  have e2 : (hi * 18446744073709551616 + lo) % y = ((u * 4294967296 + n1) * 4294967296 + n0) % yn / 2 ^ s := by
    rw [← c.all, c.yne, Nat.mul_mod_mul_right, Nat.mul_div_cancel _ hp2]
  have hd := Nat.div_add_mod (u * 4294967296 + n1) yn
  have e3 : (u * 4294967296 + n1) * 4294967296 + n0 = ((u * 4294967296 + n1) % yn * 4294967296 + n0) + yn * ((u * 4294967296 + n1) / yn * 4294967296) := by
    rw [← Nat.mul_assoc]; omega
  rw [e1, e2, e3, Nat.add_mul_div_left _ _ hyn, Nat.add_mul_mod_self_left]
  exact ⟨by omega, rfl⟩
theorem khyp {yn u n : Nat} (h1 : 9223372036854775808 ≤ yn) (h2 : yn < 18446744073709551616) (hu : u < yn) (hn : n < 4294967296) :
    KHyp (yn : Int) ((yn / 4294967296 : Nat) : Int) ((yn % 4294967296 : Nat) : Int) (u : Int) (n : Int) (((u * 4294967296 + n) / yn : Nat) : Int) := by
  have hd := Nat.div_add_mod (u * 4294967296 + n) yn
  have hm := Nat.mod_lt (u * 4294967296 + n) (show yn > 0 by omega)
  refine ⟨by omega, by omega, by omega, by omega, by omega, by omega, by omega, by omega, by omega, ?_, ?_⟩
  · rw [← Int.natCast_mul, Nat.mul_comm]; omega
  · rw [Int.add_mul, Int.one_mul, ← Int.natCast_mul, Nat.mul_comm]; omega
theorem and_as {P : Program} {K : Value → World → Prop} {w : World} {t : TypeId} {ox oy : Operand} {k : IntKind} {x y : Int} (v : Int) (hv : k.wrap (BitVec.ofInt k.bits x &&& BitVec.ofInt k.bits y).toNat = v) (h : K (.int k v) w) : BinK P K w .and t ox oy (.int k x) (.int k y) := by
  subst hv; exact and_rule h
theorem q_small {q v0 : Int} (h0 : 0 ≤ q) (h1 : q < 4294967296) (h2 : 0 ≤ v0) (h3 : v0 < 4294967296) : 0 ≤ q * v0 ∧ q * v0 < 18446744073709551616 := by
  have a := Int.mul_nonneg h0 h2
  have b : q * v0 ≤ 4294967295 * v0 := Int.mul_le_mul_of_nonneg_right (by omega) h2
  omega
theorem Q_rem {u n yn : Nat} (h : 0 < yn) : (u : Int) * 4294967296 + (n : Int) - (((u * 4294967296 + n) / yn : Nat) : Int) * (yn : Int) = (((u * 4294967296 + n) % yn : Nat) : Int) := by
  have hd := Nat.div_add_mod (u * 4294967296 + n) yn
  rw [← Int.natCast_mul, Nat.mul_comm]; omega
theorem start_q {U v1 : Int} (h0 : 0 ≤ U) (h1 : 0 ≤ U / v1) (h2 : U / v1 ≤ 4294967297) : IntKind.u64.wrap (U.tdiv v1) = U / v1 := by
  rw [Int.tdiv_eq_ediv_of_nonneg h0, u64w]; omega
theorem start_r {U v1 : Int} (h0 : 0 ≤ U - U / v1 * v1) (h1 : U - U / v1 * v1 < v1) (h2 : v1 < 4294967296) (h3 : U < 18446744073709551616) : IntKind.u64.wrap (U - IntKind.u64.wrap (U / v1 * v1)) = U - U / v1 * v1 := by
  rw [u64w, u64w]; omega
theorem nat_lt64 {x y : Nat} (h : x < y) (h2 : y < 18446744073709551616) : (x : Int) < 18446744073709551616 := by omega
theorem rem_lt64 {x y : Nat} (h : x < y) (h2 : y < 18446744073709551616) {z : Int} (e : z = (x : Int)) : 0 ≤ z ∧ z < 18446744073709551616 := by omega
theorem pos63 {y : Nat} (h : 9223372036854775808 ≤ y) : 0 < y := by omega
theorem ne31 {v : Int} (h : 2147483648 ≤ v) : v ≠ 0 := by omega
theorem two_digits {a b : Nat} (h0 : (0 : Int) ≤ a) (h1 : (a : Int) < 4294967296) (h2 : (0 : Int) ≤ b) (h3 : (b : Int) < 4294967296) : IntKind.u64.wrap (IntKind.u64.wrap ((a : Int) * 4294967296) + (b : Int)) = ((a * 4294967296 + b : Nat) : Int) := by
  rw [u64w, u64w]; omega
theorem mulsub {u v q n : Int} (h0 : 0 ≤ u * 4294967296 + n - q * v) (h1 : u * 4294967296 + n - q * v < 18446744073709551616) : IntKind.u64.wrap (IntKind.u64.wrap (IntKind.u64.wrap (u * 4294967296) + n) - IntKind.u64.wrap (q * v)) = u * 4294967296 + n - q * v := by
  rw [u64w, u64w, u64w, u64w]; omega
set_option maxRecDepth 20000 in
set_option maxHeartbeats 4000000 in
theorem div64 (hi lo y : Nat) (h1 : hi < y) (h2 : lo < 18446744073709551616) (h3 : y < 18446744073709551616) :
    CB 199 [.int .u64 hi, .int .u64 lo, .int .u64 y] (.tuple #[.int .u64 (((hi * 18446744073709551616 + lo) / y : Nat) : Int), .int .u64 (((hi * 18446744073709551616 + lo) % y : Nat) : Int)]) := by
  intro w M I H
  refine Exe.of_ev tok Tryz.call199 Tryz.func199 rfl rfl rfl ?_
  refine br (fun q => ?_) (fun _ => ?_)
  · exfalso; have q : ((y : Int) == 0) = true := q; simp at q; omega
  refine brd (fun q => by omega) (fun _ => ?_)
  refine br (fun q => ?_) (fun q => ?_)
  · have q : ((hi : Int) == 0) = true := q
    have q : hi = 0 := by simpa using q
    subst q
    rw [Nat.zero_mul, Nat.zero_add]
    refine draw_rule (A := []) tok tdr H [0, 1, 2, 3, 4, 5, 6, 7] [0, 0, 3, 0, 0, 24, 7, 127] rfl ?_
    refine pass_rule _ (fun w h => quo_as ((lo / y : Nat) : Int) (by omega) (by rw [tdiv_nat, u64n (by have := Nat.div_le_self lo y; omega)]) ⟨rfl, rfl⟩) ?_
    refine pass_rule _ (fun w h => rem_as ((lo % y : Nat) : Int) (by omega) (tmod_nat lo y) ⟨rfl, rfl⟩) ?_
    refine done_rule fun w2 H2 => ?_
    exact Exists.intro () (And.intro rfl (And.intro trivial (Hp.keep H2)))
  have hy0 : 0 < y := by omega
  have hbl := bitLen_ok hy0 h3
  have hs : ∃ s, s = 64 - Lib.bitLen y := ⟨_, rfl⟩
  refine Exists.elim hs fun s hs => ?_
  have hc := cut_ok h1 h2 h3 hs
  have hp64 : 0 < 2 ^ (64 - s) := Nat.pow_pos (by omega)
  have hsp : 2 ^ s * 2 ^ (64 - s) = 18446744073709551616 := by rw [← Nat.pow_add, show s + (64 - s) = 64 by omega]
  have hlos : lo / 2 ^ (64 - s) < 2 ^ s := by rw [Nat.div_lt_iff_lt_mul hp64, hsp]; exact h2
  have hor : hi * 2 ^ s + lo / 2 ^ (64 - s) < 18446744073709551616 → IntKind.u64.wrap (BitVec.ofInt IntKind.u64.bits ((hi * 2 ^ s : Nat) : Int) ||| BitVec.ofInt IntKind.u64.bits ((lo / 2 ^ (64 - s) : Nat) : Int)).toNat = ((hi * 2 ^ s + lo / 2 ^ (64 - s) : Nat) : Int) := fun h => or_high hi s _ h hlos
  have sh1 := shl64 y s (by omega)
  have sh2 := shl64 hi s (by omega)
  have sh3 := shl64 lo s (by omega)
  have sh4 : ((lo : Int)).fdiv (2 ^ min (((64 - s : Nat) : Int)).toNat IntKind.u64.bits) = ((lo / 2 ^ (64 - s) : Nat) : Int) := shr_div (x := lo) (s := 64 - s) (k := .u64) (by show 64 - s ≤ 64; omega)
  have hes : IntKind.u64.wrap (64 - (Lib.bitLen y : Int)) = (s : Int) := by rw [u64w]; omega
  have h64 : IntKind.u64.wrap (64 - IntKind.u64.wrap (64 - (Lib.bitLen y : Int))) = ((64 - s : Nat) : Int) := by rw [hes, u64w]; omega
  refine call_rule H (fun M I _ h => leading y h3 _ M I h) fun _ w1 _ H1 => ?_
  refine Exists.elim (⟨_, rfl⟩ : ∃ yn, yn = y * 2 ^ s) fun yn hyn => ?_
  refine Exists.elim (⟨_, rfl⟩ : ∃ a, a = hi * 2 ^ s) fun a ha => ?_
  refine Exists.elim (⟨_, rfl⟩ : ∃ b, b = lo / 2 ^ (64 - s)) fun b hb0 => ?_
  refine Exists.elim (⟨_, rfl⟩ : ∃ z, z = lo * 2 ^ s % 18446744073709551616) fun z hz => ?_
  rw [← hyn, ← ha, ← hb0, ← hz] at hc
  rw [← ha, ← hb0] at hor
  rw [← hyn] at sh1
  rw [← ha] at sh2
  rw [← hz] at sh3
  rw [← hb0] at sh4
  have hzb : z < 18446744073709551616 := by rw [hz]; exact Nat.mod_lt _ (by decide)
  have hyn1 := hc.yn1
  have hyn2 := hc.yn2
  have hu := hc.u1
  rw [Nat.mod_eq_of_lt hyn2] at sh1
  rw [Nat.mod_eq_of_lt (by omega)] at sh2
  have hor := hor (by omega)
  refine Exists.elim (⟨_, rfl⟩ : ∃ u, u = a + b) fun u hu0 => ?_
  refine Exists.elim (⟨_, rfl⟩ : ∃ n, n = z / 4294967296) fun n1 hn1 => ?_
  refine Exists.elim (⟨_, rfl⟩ : ∃ n, n = z % 4294967296) fun n0 hn0 => ?_
  refine Exists.elim (⟨_, rfl⟩ : ∃ v, v = yn / 4294967296) fun v1 hv1 => ?_
  refine Exists.elim (⟨_, rfl⟩ : ∃ v, v = yn % 4294967296) fun v0 hv0 => ?_
  have sh5 : ((yn : Int)).fdiv (2 ^ min (32 : Int).toNat IntKind.u64.bits) = (v1 : Int) := by rw [hv1]; exact shr_div (x := yn) (s := 32) (k := .u64) (by decide)
  have sh6 : ((z : Int)).fdiv (2 ^ min (32 : Int).toNat IntKind.u64.bits) = (n1 : Int) := by rw [hn1]; exact shr_div (x := z) (s := 32) (k := .u64) (by decide)
  have lw1 : IntKind.u64.wrap (BitVec.ofInt IntKind.u64.bits (yn : Int) &&& BitVec.ofInt IntKind.u64.bits 4294967295).toNat = (v0 : Int) := by rw [hv0]; exact low32 yn hyn2
  have lw2 : IntKind.u64.wrap (BitVec.ofInt IntKind.u64.bits (z : Int) &&& BitVec.ofInt IntKind.u64.bits 4294967295).toNat = (n0 : Int) := by rw [hn0]; exact low32 z hzb
  rw [← hu0, ← hn1, ← hn0] at hc
  rw [← hu0] at hor hu
  have hdg := digits2 hc
  have K1 := khyp hyn1 hyn2 hu hc.n1b
  rw [← hv1, ← hv0] at K1
  have hn1b := hc.n1b
  have hn0b := hc.n0b
  have s0 : (0 : Int) ≤ IntKind.u64.wrap (64 - (Lib.bitLen y : Int)) := by rw [hes]; omega
  have s64 : (0 : Int) ≤ IntKind.u64.wrap (64 - IntKind.u64.wrap (64 - (Lib.bitLen y : Int))) := by rw [h64]; omega
  refine shl_as (yn : Int) s0 (by rw [hes]; exact sh1) ?_
  refine shr_as (v1 : Int) (by decide) sh5 ?_
  refine and_as (v0 : Int) lw1 ?_
  refine shl_as (a : Int) s0 (by rw [hes]; exact sh2) ?_
  refine shr_as (b : Int) s64 (by rw [h64]; exact sh4) ?_
  refine or_as (u : Int) hor ?_
  refine shl_as (z : Int) s0 (by rw [hes]; exact sh3) ?_
  refine shr_as (n1 : Int) (by decide) sh6 ?_
  refine and_as (n0 : Int) lw2 ?_
  clear sh1 sh2 sh3 sh4 sh5 sh6 lw1 lw2 hor hyn ha hb0 hz
  have st1 := K1.start
  have hv1a := K1.v1a
  have hv1b := K1.v1b
  have hq1 := st1.1.hi
  have hq1z : (0 : Int) ≤ (u : Int) / (v1 : Int) := Int.ediv_nonneg (Int.natCast_nonneg _) (Int.natCast_nonneg _)
  refine quo_as ((u : Int) / (v1 : Int)) (ne31 hv1a) (by exact start_q (Int.natCast_nonneg _) hq1z hq1) ?_
  have er1 : IntKind.u64.wrap ((u : Int) - IntKind.u64.wrap ((u : Int) / (v1 : Int) * (v1 : Int))) = (u : Int) - (u : Int) / (v1 : Int) * (v1 : Int) := by
    exact start_r st1.1.r0 st1.2 hv1b (nat_lt64 hu hyn2)
  refine loop_out tok (σ := Int × Int) (τ := Unit) 77371104881383677504880640 0 (fun t => [(15, .int .u64 t.1), (16, .int .u64 t.2)]) (fun t w' => KInv (v1 : Int) (u : Int) (((u * 4294967296 + n1) / yn : Nat) : Int) t.1 t.2 ∧ t.2 < 4294967296 ∧ Hp ⟨w, M, I⟩ [] [] w') (fun t => (4294967296 - t.2).toNat) ((u : Int) / (v1 : Int), (u : Int) - (u : Int) / (v1 : Int) * (v1 : Int))
    (fun _ => [(15, .int .u64 (((u * 4294967296 + n1) / yn : Nat) : Int))]) (fun _ w' => Hp ⟨w, M, I⟩ [] [] w') rfl rfl ⟨rfl, congrArg (Value.int .u64) er1, trivial⟩ ⟨st1.1, Int.lt_trans st1.2 hv1b, Hp.keep H1⟩ ?_ ?_
  · clear hdg hc
    intro t j w2 hW
    have hi1 := hW.1
    have hr := hW.2.1
    have H2 := hW.2.2
    have t0 : 0 ≤ t.1 := by have := K1.Q0; have := hi1.lo; omega
    have hr0 := hi1.r0
    have eq1 : IntKind.u64.wrap (t.1 - 1) = t.1 - 1 ∨ t.1 = 0 := by
      have := hi1.hi
      by_cases e : t.1 = 0
      · exact .inr e
      · left; rw [u64w]; omega
    have er2 : IntKind.u64.wrap (t.2 + (v1 : Int)) = t.2 + (v1 : Int) := by rw [u64w]; omega
    refine brd (fun hq => ?_) (fun hq => ?_)
    · have d := K1.dec hi1 (.inl hq)
      have eq2 : IntKind.u64.wrap (t.1 - 1) = t.1 - 1 := eq1.resolve_right (by omega)
      refine brd (fun hb => ?_) (fun hb => ?_)
      · rw [er2] at hb
        have ee := K1.break_ d (by have := d.hi; have := hi1.hi; omega) hb
        exact Exists.intro () (And.intro ⟨congrArg (Value.int .u64) (eq2.trans ee), trivial⟩ H2)
      · rw [er2] at hb
        exact Exists.intro (t.1 - 1, t.2 + (v1 : Int)) (And.intro ⟨congrArg (Value.int .u64) eq2, congrArg (Value.int .u64) er2, trivial⟩ (And.intro (by show (4294967296 - (t.2 + (v1 : Int))).toNat < (4294967296 - t.2).toNat; omega) ⟨d, by show t.2 + (v1 : Int) < 4294967296; omega, H2⟩))
    · have hqs := q_small (v0 := (v0 : Int)) t0 (by omega) K1.v0a K1.v0b
      have ea : IntKind.u64.wrap (t.1 * (v0 : Int)) = t.1 * (v0 : Int) := by rw [u64w]; omega
      have eb : IntKind.u64.wrap (IntKind.u64.wrap (4294967296 * t.2) + (n1 : Int)) = 4294967296 * t.2 + (n1 : Int) := by rw [u64w, u64w]; omega
      refine brd (fun hg => ?_) (fun hg => ?_)
      · rw [ea, eb] at hg
        have d := K1.dec hi1 (.inr hg)
        have eq2 : IntKind.u64.wrap (t.1 - 1) = t.1 - 1 := eq1.resolve_right (by have := d.lo; have := K1.Q0; omega)
        refine brd (fun hb => ?_) (fun hb => ?_)
        · rw [er2] at hb
          have ee := K1.break_ d (by have := d.hi; have := hi1.hi; omega) hb
          exact Exists.intro () (And.intro ⟨congrArg (Value.int .u64) (eq2.trans ee), trivial⟩ H2)
        · rw [er2] at hb
          exact Exists.intro (t.1 - 1, t.2 + (v1 : Int)) (And.intro ⟨congrArg (Value.int .u64) eq2, congrArg (Value.int .u64) er2, trivial⟩ (And.intro (by show (4294967296 - (t.2 + (v1 : Int))).toNat < (4294967296 - t.2).toNat; omega) ⟨d, by show t.2 + (v1 : Int) < 4294967296; omega, H2⟩))
      · rw [ea, eb] at hg
        have ee := K1.stop hi1 (by omega)
        exact Exists.intro () (And.intro ⟨congrArg (Value.int .u64) ee, trivial⟩ H2)
  intro _ j2 w3 H3
  have hQ0 := K1.Q0
  have hQ1 := K1.Q1
  refine Exists.elim (⟨_, rfl⟩ : ∃ q, q = (u * 4294967296 + n1) / yn) fun q1 hq1d => ?_
  refine Exists.elim (⟨_, rfl⟩ : ∃ q, q = (u * 4294967296 + n1) % yn) fun r1 hr1d => ?_
  have hrem := Q_rem (u := u) (n := n1) (yn := yn) (pos63 hyn1)
  have hr1lt : r1 < yn := by rw [hr1d]; exact Nat.mod_lt _ (pos63 hyn1)
  rw [← hq1d, ← hr1d] at hrem
  rw [← hq1d, ← hr1d] at hdg
  rw [← hq1d] at hQ0 hQ1
  have em : IntKind.u64.wrap (IntKind.u64.wrap (IntKind.u64.wrap ((u : Int) * 4294967296) + (n1 : Int)) - IntKind.u64.wrap ((((u * 4294967296 + n1) / yn : Nat) : Int) * (yn : Int))) = (r1 : Int) := by
    rw [← hq1d, mulsub (rem_lt64 hr1lt hyn2 hrem).1 (rem_lt64 hr1lt hyn2 hrem).2]; exact hrem
  have K2 := khyp hyn1 hyn2 hr1lt hn0b
  rw [← hv1, ← hv0] at K2
  have st2 := K2.start
  have hq2 := st2.1.hi
  have hq2z : (0 : Int) ≤ (r1 : Int) / (v1 : Int) := Int.ediv_nonneg (Int.natCast_nonneg _) (Int.natCast_nonneg _)
  refine quo_as ((r1 : Int) / (v1 : Int)) (ne31 hv1a) (by rw [em]; exact start_q (Int.natCast_nonneg _) hq2z hq2) ?_
  have er3 : IntKind.u64.wrap (IntKind.u64.wrap (IntKind.u64.wrap (IntKind.u64.wrap ((u : Int) * 4294967296) + (n1 : Int)) - IntKind.u64.wrap ((((u * 4294967296 + n1) / yn : Nat) : Int) * (yn : Int))) - IntKind.u64.wrap ((r1 : Int) / (v1 : Int) * (v1 : Int))) = (r1 : Int) - (r1 : Int) / (v1 : Int) * (v1 : Int) := by
    rw [em]; exact start_r st2.1.r0 st2.2 hv1b (nat_lt64 hr1lt hyn2)
  refine loop_out tok (σ := Int × Int) (τ := Unit) 2658450920967430832890008133748195328 2 (fun t => [(18, .int .u64 t.1), (16, .int .u64 t.2)]) (fun t w' => KInv (v1 : Int) (r1 : Int) (((r1 * 4294967296 + n0) / yn : Nat) : Int) t.1 t.2 ∧ t.2 < 4294967296 ∧ Hp ⟨w, M, I⟩ [] [] w') (fun t => (4294967296 - t.2).toNat) ((r1 : Int) / (v1 : Int), (r1 : Int) - (r1 : Int) / (v1 : Int) * (v1 : Int))
    (fun _ => [(18, .int .u64 (((r1 * 4294967296 + n0) / yn : Nat) : Int))]) (fun _ w' => Hp ⟨w, M, I⟩ [] [] w') rfl rfl ⟨rfl, congrArg (Value.int .u64) er3, trivial⟩ ⟨st2.1, Int.lt_trans st2.2 hv1b, Hp.keep H3⟩ ?_ ?_
  · clear hdg hc
    intro t j w2 hW
    have hi1 := hW.1
    have hr := hW.2.1
    have H2 := hW.2.2
    have t0 : 0 ≤ t.1 := by have := K2.Q0; have := hi1.lo; omega
    have hr0 := hi1.r0
    have eq1 : IntKind.u64.wrap (t.1 - 1) = t.1 - 1 ∨ t.1 = 0 := by
      have := hi1.hi
      by_cases e : t.1 = 0
      · exact .inr e
      · left; rw [u64w]; omega
    have er2 : IntKind.u64.wrap (t.2 + (v1 : Int)) = t.2 + (v1 : Int) := by rw [u64w]; omega
    refine brd (fun hq => ?_) (fun hq => ?_)
    · have d := K2.dec hi1 (.inl hq)
      have eq2 : IntKind.u64.wrap (t.1 - 1) = t.1 - 1 := eq1.resolve_right (by omega)
      refine brd (fun hb => ?_) (fun hb => ?_)
      · rw [er2] at hb
        have ee := K2.break_ d (by have := d.hi; have := hi1.hi; omega) hb
        exact Exists.intro () (And.intro ⟨congrArg (Value.int .u64) (eq2.trans ee), trivial⟩ H2)
      · rw [er2] at hb
        exact Exists.intro (t.1 - 1, t.2 + (v1 : Int)) (And.intro ⟨congrArg (Value.int .u64) eq2, congrArg (Value.int .u64) er2, trivial⟩ (And.intro (by show (4294967296 - (t.2 + (v1 : Int))).toNat < (4294967296 - t.2).toNat; omega) ⟨d, by show t.2 + (v1 : Int) < 4294967296; omega, H2⟩))
    · have hqs := q_small (v0 := (v0 : Int)) t0 (by omega) K2.v0a K2.v0b
      have ea : IntKind.u64.wrap (t.1 * (v0 : Int)) = t.1 * (v0 : Int) := by rw [u64w]; omega
      have eb : IntKind.u64.wrap (IntKind.u64.wrap (4294967296 * t.2) + (n0 : Int)) = 4294967296 * t.2 + (n0 : Int) := by rw [u64w, u64w]; omega
      refine brd (fun hg => ?_) (fun hg => ?_)
      · rw [ea, eb] at hg
        have d := K2.dec hi1 (.inr hg)
        have eq2 : IntKind.u64.wrap (t.1 - 1) = t.1 - 1 := eq1.resolve_right (by have := d.lo; have := K2.Q0; omega)
        refine brd (fun hb => ?_) (fun hb => ?_)
        · rw [er2] at hb
          have ee := K2.break_ d (by have := d.hi; have := hi1.hi; omega) hb
          exact Exists.intro () (And.intro ⟨congrArg (Value.int .u64) (eq2.trans ee), trivial⟩ H2)
        · rw [er2] at hb
          exact Exists.intro (t.1 - 1, t.2 + (v1 : Int)) (And.intro ⟨congrArg (Value.int .u64) eq2, congrArg (Value.int .u64) er2, trivial⟩ (And.intro (by show (4294967296 - (t.2 + (v1 : Int))).toNat < (4294967296 - t.2).toNat; omega) ⟨d, by show t.2 + (v1 : Int) < 4294967296; omega, H2⟩))
      · rw [ea, eb] at hg
        have ee := K2.stop hi1 (by omega)
        exact Exists.intro () (And.intro ⟨congrArg (Value.int .u64) ee, trivial⟩ H2)
  intro _ j4 w4 H4
  have hrem2 := Q_rem (u := r1) (n := n0) (yn := yn) (pos63 hyn1)
  have hr2lt : (r1 * 4294967296 + n0) % yn < yn := Nat.mod_lt _ (pos63 hyn1)
  have hQ20 := K2.Q0
  have hQ21 := K2.Q1
  have em2 : IntKind.u64.wrap (IntKind.u64.wrap (IntKind.u64.wrap (IntKind.u64.wrap (IntKind.u64.wrap (IntKind.u64.wrap ((u : Int) * 4294967296) + (n1 : Int)) - IntKind.u64.wrap ((((u * 4294967296 + n1) / yn : Nat) : Int) * (yn : Int))) * 4294967296) + (n0 : Int)) - IntKind.u64.wrap ((((r1 * 4294967296 + n0) / yn : Nat) : Int) * (yn : Int))) = (((r1 * 4294967296 + n0) % yn : Nat) : Int) := by
    rw [em, mulsub (rem_lt64 hr2lt hyn2 hrem2).1 (rem_lt64 hr2lt hyn2 hrem2).2]; exact hrem2
  have sh7 : ((((r1 * 4294967296 + n0) % yn : Nat) : Int)).fdiv (2 ^ min ((s : Int)).toNat IntKind.u64.bits) = (((r1 * 4294967296 + n0) % yn / 2 ^ s : Nat) : Int) := shr_div (k := .u64) (by show s ≤ 64; omega)
  refine shr_as (((r1 * 4294967296 + n0) % yn / 2 ^ s : Nat) : Int) s0 (by rw [em2, hes]; exact sh7) ?_
  have eqf : IntKind.u64.wrap (IntKind.u64.wrap ((((u * 4294967296 + n1) / yn : Nat) : Int) * 4294967296) + (((r1 * 4294967296 + n0) / yn : Nat) : Int)) = (((hi * 18446744073709551616 + lo) / y : Nat) : Int) := by
    rw [← hq1d, hdg.1]; exact two_digits hQ0 hQ1 hQ20 hQ21
  refine Exists.intro () (And.intro ?_ (And.intro trivial (Hp.keep H4)))
  show Value.tuple #[.int .u64 (IntKind.u64.wrap (IntKind.u64.wrap ((((u * 4294967296 + n1) / yn : Nat) : Int) * 4294967296) + (((r1 * 4294967296 + n0) / yn : Nat) : Int))), .int .u64 (((r1 * 4294967296 + n0) % yn / 2 ^ s : Nat) : Int)] = _
  rw [eqf, hdg.2]
end Go.Proofs.YtgbmambkgcjhfaaGreatDoor
