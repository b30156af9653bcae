/- How many bytes a number takes; numbers as bytes: the walks. -/
import Derived.Test.YtenpgmnknmnofaaDoorT20
namespace Go.Proofs.YtenpgmnknmnofaaDoor
open Go Go.Proofs Go.Wk
/-- How many bytes a number takes. -/
def sizeB (x : Nat) : Nat := if h : x = 0 then 0 else 1 + sizeB (x / 256)
termination_by x
decreasing_by omega
theorem sizeB_zero : sizeB 0 = 0 := by unfold sizeB; rfl
theorem sizeB_pos {x : Nat} (h : x ≠ 0) : sizeB x = 1 + sizeB (x / 256) := by rw [sizeB, dif_neg h]
theorem sizeB_small {y : Nat} (h : y < 256) : sizeB y = if y = 0 then 0 else 1 := by
  by_cases h0 : y = 0
  · subst h0; rw [sizeB_zero]; rfl
  · rw [sizeB_pos h0, Nat.div_eq_of_lt h, sizeB_zero, if_neg h0]
theorem sizeB_2 {x : Nat} (h : 256 ≤ x) : sizeB x = 2 + sizeB (x / 65536) := by
  rw [sizeB_pos (by omega), sizeB_pos (x := x / 256) (by omega), Nat.div_div_eq_div_mul, show 256 * 256 = 65536 from rfl]; omega
theorem sizeB_4 {x : Nat} (h : 16777216 ≤ x) : sizeB x = 4 + sizeB (x / 4294967296) := by
  rw [sizeB_2 (by omega), sizeB_2 (x := x / 65536) (by omega), Nat.div_div_eq_div_mul, show 65536 * 65536 = 4294967296 from rfl]; omega
def tabGo : List UInt8 → Nat → Bool
  | [], k => Nat.beq k 256
  | b :: r, k => ((Nat.beq b.toNat 0) == (Nat.beq k 0)) && (Nat.ble b.toNat 8 && tabGo r (k + 1))
theorem tabGo_at : ∀ {l : List UInt8} {k y : Nat}, tabGo l k = true → k ≤ y → y < 256 → ∃ b, l[y - k]? = some b ∧ b.toNat ≤ 8 ∧ (b.toNat = 0 ↔ y = 0)
  | [], k, y, h, h1, h2 => by
    have := Nat.eq_of_beq_eq_true h
    omega
  | b :: r, k, y, h, h1, h2 => by
    simp only [tabGo, Bool.and_eq_true, beq_iff_eq] at h
    obtain ⟨h3, h4, h5⟩ := h
    by_cases hk : k = y
    · subst hk
      refine ⟨b, by simp, Nat.le_of_ble_eq_true h4, ?_⟩
      rw [← Nat.beq_eq, ← Nat.beq_eq, h3]
    · obtain ⟨c, hc, hc2⟩ := tabGo_at h5 (show k + 1 ≤ y by omega) h2
      refine ⟨c, ?_, hc2⟩
      rw [show y - k = (y - (k + 1)) + 1 by omega, List.getElem?_cons_succ]
      exact hc
theorem tab_at {P : Program} {T : Tab} {K : Value → World → Prop} {w : World} (hT : T.Ok P) {t : TypeId} {it : TypeInfo} {s : ByteArray} (ht : T t = some ⟨.string, it⟩) (hs : tabGo s.data.toList 0 = true) {y : Nat} (hy : y < 256)
    (k : ∀ b : Nat, b ≤ 8 → (b = 0 ↔ y = 0) → K (.int .u8 b) w) : IndexK P K w t (.string s) (.int .u8 (IntKind.u8.wrap y)) := by
  have e : IntKind.u8.wrap y = y := wrap_id ⟨by show (0 : Int) ≤ _; omega, by show _ ≤ (255 : Int); omega⟩
  obtain ⟨b, hb, h8, h0⟩ := tabGo_at hs (Nat.zero_le y) hy
  rw [e]
  refine str_at hT ht (by omega) (b := b) ?_ (k b.toNat h8 h0)
  have h1 : s.data.toList[y]? = some b := hb
  have h2 : s.data[y]? = some b := by rw [← h1, Array.getElem?_toList]
  obtain ⟨h3, h4⟩ := Array.getElem?_eq_some_iff.1 h2
  rw [Int.toNat_natCast, getElem?_pos s y h3]
  exact congrArg some h4
theorem shr_div {x s : Nat} {k : IntKind} (h : s ≤ k.bits) : ((x : Int)).fdiv (2 ^ min ((s : Int)).toNat k.bits) = ((x / 2 ^ s : Nat) : Int) := by
  rw [Int.toNat_natCast, Nat.min_eq_left h]
  have : ((2 : Int) ^ s) = ((2 ^ s : Nat) : Int) := by simp
  rw [this]
  exact (Int.ofNat_fdiv x (2 ^ s)).symm
theorem leafB {x y b acc : Nat} (hx : sizeB x = acc / 8 + sizeB y) (h8 : acc % 8 = 0) (hy : y < 256) (hb : b ≤ 8) (h0 : b = 0 ↔ y = 0) : (acc + b + 7) / 8 = sizeB x := by
  rw [hx, sizeB_small hy]
  by_cases h : y = 0
  · rw [if_pos h]; have := h0.2 h; omega
  · rw [if_neg h]; have : b ≠ 0 := fun e => h (h0.1 e); omega
set_option maxRecDepth 20000 in
theorem lenB (x : Nat) (hx : x < 18446744073709551616) (w : World) (M I : BS) (H : Hp ⟨w, M, I⟩ [] [] w) :
    Ctr Tryd.prog 61 [.int .u64 x] w M I (fun n : Nat => .int .i64 n) (fun n => n ≤ 64 ∧ (n + 7) / 8 = sizeB x) (fun _ => []) (fun _ => []) := by
  refine Exe.of_ev tok Tryd.call61 Tryd.func61 rfl rfl rfl ?_

  refine brd (fun h0 => ?_) (fun h0 => ?_)
  · have h0 : (((4294967296 : Nat)) : Int) ≤ x := h0
    obtain ⟨y0, e0⟩ : ∃ y : Nat, x / 4294967296 = y := ⟨_, rfl⟩
    have s0 : sizeB x = 4 + sizeB y0 := by rw [sizeB_4 (x := x) (by omega), e0]
    refine shr_as (y0 : Int) (by decide) (by rw [← e0]; exact shr_div (x := x) (s := 32) (k := .u64) (by decide)) ?_
    refine brd (fun h1 => ?_) (fun h1 => ?_)
    · have h1 : (((65536 : Nat)) : Int) ≤ y0 := h1
      obtain ⟨y1, e1⟩ : ∃ y : Nat, y0 / 65536 = y := ⟨_, rfl⟩
      have s1 : sizeB y0 = 2 + sizeB y1 := by rw [sizeB_2 (x := y0) (by omega), e1]
      refine shr_as (y1 : Int) (by decide) (by rw [← e1]; exact shr_div (x := y0) (s := 16) (k := .u64) (by decide)) ?_
      refine brd (fun h2 => ?_) (fun h2 => ?_)
      · have h2 : (((256 : Nat)) : Int) ≤ y1 := h2
        obtain ⟨y2, e2⟩ : ∃ y : Nat, y1 / 256 = y := ⟨_, rfl⟩
        have s2 : sizeB y1 = 1 + sizeB y2 := by rw [sizeB_pos (x := y1) (by omega), e2]
        refine shr_as (y2 : Int) (by decide) (by rw [← e2]; exact shr_div (x := y1) (s := 8) (k := .u64) (by decide)) ?_
        refine tab_at tok rfl (by kernel_rfl) (y := y2) (by omega) fun b hb h0 => ?_
        refine Exists.intro (56 + b) (And.intro ?_ (And.intro ⟨by omega, leafB (by rw [s0, s1, s2] <;> omega) rfl (by omega) hb h0⟩ H))
        show Value.int .i64 (IntKind.i64.wrap (56 + IntKind.i64.wrap b)) = Value.int .i64 ((56 + b : Nat) : Int)
        rw [w64 (n := (b : Int)) (by omega) (by omega), w64 (by omega) (by omega)] <;> rfl
      · have h2 : ¬ (((256 : Nat)) : Int) ≤ y1 := h2
        refine tab_at tok rfl (by kernel_rfl) (y := y1) (by omega) fun b hb h0 => ?_
        refine Exists.intro (48 + b) (And.intro ?_ (And.intro ⟨by omega, leafB (by rw [s0, s1] <;> omega) rfl (by omega) hb h0⟩ H))
        show Value.int .i64 (IntKind.i64.wrap (48 + IntKind.i64.wrap b)) = Value.int .i64 ((48 + b : Nat) : Int)
        rw [w64 (n := (b : Int)) (by omega) (by omega), w64 (by omega) (by omega)] <;> rfl
    · have h1 : ¬ (((65536 : Nat)) : Int) ≤ y0 := h1
      refine brd (fun h2 => ?_) (fun h2 => ?_)
      · have h2 : (((256 : Nat)) : Int) ≤ y0 := h2
        obtain ⟨y2, e2⟩ : ∃ y : Nat, y0 / 256 = y := ⟨_, rfl⟩
        have s2 : sizeB y0 = 1 + sizeB y2 := by rw [sizeB_pos (x := y0) (by omega), e2]
        refine shr_as (y2 : Int) (by decide) (by rw [← e2]; exact shr_div (x := y0) (s := 8) (k := .u64) (by decide)) ?_
        refine tab_at tok rfl (by kernel_rfl) (y := y2) (by omega) fun b hb h0 => ?_
        refine Exists.intro (40 + b) (And.intro ?_ (And.intro ⟨by omega, leafB (by rw [s0, s2] <;> omega) rfl (by omega) hb h0⟩ H))
        show Value.int .i64 (IntKind.i64.wrap (40 + IntKind.i64.wrap b)) = Value.int .i64 ((40 + b : Nat) : Int)
        rw [w64 (n := (b : Int)) (by omega) (by omega), w64 (by omega) (by omega)] <;> rfl
      · have h2 : ¬ (((256 : Nat)) : Int) ≤ y0 := h2
        refine tab_at tok rfl (by kernel_rfl) (y := y0) (by omega) fun b hb h0 => ?_
        refine Exists.intro (32 + b) (And.intro ?_ (And.intro ⟨by omega, leafB (by rw [s0] <;> omega) rfl (by omega) hb h0⟩ H))
        show Value.int .i64 (IntKind.i64.wrap (32 + IntKind.i64.wrap b)) = Value.int .i64 ((32 + b : Nat) : Int)
        rw [w64 (n := (b : Int)) (by omega) (by omega), w64 (by omega) (by omega)] <;> rfl
  · have h0 : ¬ (((4294967296 : Nat)) : Int) ≤ x := h0
    refine brd (fun h1 => ?_) (fun h1 => ?_)
    · have h1 : (((65536 : Nat)) : Int) ≤ x := h1
      obtain ⟨y1, e1⟩ : ∃ y : Nat, x / 65536 = y := ⟨_, rfl⟩
      have s1 : sizeB x = 2 + sizeB y1 := by rw [sizeB_2 (x := x) (by omega), e1]
      refine shr_as (y1 : Int) (by decide) (by rw [← e1]; exact shr_div (x := x) (s := 16) (k := .u64) (by decide)) ?_
      refine brd (fun h2 => ?_) (fun h2 => ?_)
      · have h2 : (((256 : Nat)) : Int) ≤ y1 := h2
        obtain ⟨y2, e2⟩ : ∃ y : Nat, y1 / 256 = y := ⟨_, rfl⟩
        have s2 : sizeB y1 = 1 + sizeB y2 := by rw [sizeB_pos (x := y1) (by omega), e2]
        refine shr_as (y2 : Int) (by decide) (by rw [← e2]; exact shr_div (x := y1) (s := 8) (k := .u64) (by decide)) ?_
        refine tab_at tok rfl (by kernel_rfl) (y := y2) (by omega) fun b hb h0 => ?_
        refine Exists.intro (24 + b) (And.intro ?_ (And.intro ⟨by omega, leafB (by rw [s1, s2] <;> omega) rfl (by omega) hb h0⟩ H))
        show Value.int .i64 (IntKind.i64.wrap (24 + IntKind.i64.wrap b)) = Value.int .i64 ((24 + b : Nat) : Int)
        rw [w64 (n := (b : Int)) (by omega) (by omega), w64 (by omega) (by omega)] <;> rfl
      · have h2 : ¬ (((256 : Nat)) : Int) ≤ y1 := h2
        refine tab_at tok rfl (by kernel_rfl) (y := y1) (by omega) fun b hb h0 => ?_
        refine Exists.intro (16 + b) (And.intro ?_ (And.intro ⟨by omega, leafB (by rw [s1] <;> omega) rfl (by omega) hb h0⟩ H))
        show Value.int .i64 (IntKind.i64.wrap (16 + IntKind.i64.wrap b)) = Value.int .i64 ((16 + b : Nat) : Int)
        rw [w64 (n := (b : Int)) (by omega) (by omega), w64 (by omega) (by omega)] <;> rfl
    · have h1 : ¬ (((65536 : Nat)) : Int) ≤ x := h1
      refine brd (fun h2 => ?_) (fun h2 => ?_)
      · have h2 : (((256 : Nat)) : Int) ≤ x := h2
        obtain ⟨y2, e2⟩ : ∃ y : Nat, x / 256 = y := ⟨_, rfl⟩
        have s2 : sizeB x = 1 + sizeB y2 := by rw [sizeB_pos (x := x) (by omega), e2]
        refine shr_as (y2 : Int) (by decide) (by rw [← e2]; exact shr_div (x := x) (s := 8) (k := .u64) (by decide)) ?_
        refine tab_at tok rfl (by kernel_rfl) (y := y2) (by omega) fun b hb h0 => ?_
        refine Exists.intro (8 + b) (And.intro ?_ (And.intro ⟨by omega, leafB (by rw [s2] <;> omega) rfl (by omega) hb h0⟩ H))
        show Value.int .i64 (IntKind.i64.wrap (8 + IntKind.i64.wrap b)) = Value.int .i64 ((8 + b : Nat) : Int)
        rw [w64 (n := (b : Int)) (by omega) (by omega), w64 (by omega) (by omega)] <;> rfl
      · have h2 : ¬ (((256 : Nat)) : Int) ≤ x := h2
        refine tab_at tok rfl (by kernel_rfl) (y := x) (by omega) fun b hb h0 => ?_
        refine Exists.intro (0 + b) (And.intro ?_ (And.intro ⟨by omega, leafB (by rw [Nat.zero_div, Nat.zero_add]) rfl (by omega) hb h0⟩ H))
        show Value.int .i64 (IntKind.i64.wrap (0 + IntKind.i64.wrap b)) = Value.int .i64 ((0 + b : Nat) : Int)
        rw [w64 (n := (b : Int)) (by omega) (by omega), w64 (by omega) (by omega)] <;> rfl
end Go.Proofs.YtenpgmnknmnofaaDoor
