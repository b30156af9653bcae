/- Numbers as bytes: the walks. -/
import Derived.Test.YtenpgmnknmnofaaDoorT24
namespace Go.Proofs.YtenpgmnknmnofaaDoor
open Go Go.Proofs Go.Wk
@[reducible] def byC (bs : List Nat) : List Value := bs.map fun b : Nat => Value.int .u8 (b : Int)
/-- A number's bytes, the greatest first. -/
def bigE (n : Nat) : Nat → List Nat
  | 0 => []
  | k + 1 => (n / 256 ^ k) % 256 :: bigE n k
/-- How many bytes, with a mark; and these. -/
def numB (n mark : Nat) : List Nat := (mark + sizeB n) :: bigE n (sizeB n)
theorem bigE_len (n : Nat) : ∀ k, (bigE n k).length = k
  | 0 => rfl
  | k + 1 => by rw [bigE, List.length_cons, bigE_len n k]
theorem sizeB_le8 {x : Nat} (h : x < 18446744073709551616) : sizeB x ≤ 8 := by
  have h0 : x / 4294967296 / 65536 / 256 < 256 := by omega
  by_cases h1 : 16777216 ≤ x
  · rw [sizeB_4 h1]
    by_cases h2 : 256 ≤ x / 4294967296
    · rw [sizeB_2 h2]
      by_cases h3 : x / 4294967296 / 65536 = 0
      · rw [h3, sizeB_zero]; omega
      · rw [sizeB_pos h3, sizeB_small h0]; split <;> omega
    · rw [sizeB_small (by omega)]; split <;> omega
  · by_cases h2 : 256 ≤ x
    · rw [sizeB_2 h2, sizeB_small (by omega)]; split <;> omega
    · rw [sizeB_small (by omega)]; split <;> omega
theorem wrap_u8 (x : Nat) : IntKind.u8.wrap (x : Int) = ((x % 256 : Nat) : Int) := by
  simp [IntKind.wrap, IntKind.signed, IntKind.bits]
/-- A quill at q that holds bytes. -/
@[reducible] def quillA (q : Nat) (a : SV) (bs : List Nat) : List Asn := [blk q [.slice a.A a.n a.c] 71, row 5 1 (.slice a.A a.n a.c) a.n (byC bs)]
set_option maxRecDepth 20000 in
theorem number (q : Nat) (a : SV) (bs : List Nat) (hl : bs.length = a.n) (hn : a.n ≤ 1000000) (n mark : Nat) (hx : n < 18446744073709551616) (hm : mark ≤ 128) (w : World) (M I : BS) (H : Hp ⟨w, M, I⟩ (quillA q a bs) [] w) :
    Ctr Tryd.prog 47 [.pointer (some ⟨q, 0, none⟩), .int .u64 n, .int .u8 mark] w M I (fun _ : SV => .pointer (some ⟨q, 0, none⟩)) (fun b => b.n = a.n + (numB n mark).length) (fun b => quillA q b (bs ++ numB n mark)) (fun _ => []) := by
  obtain ⟨A, m, c⟩ := a
  simp only at hl hn
  have h8 := sizeB_le8 hx
  refine Exe.of_ev tok Tryd.call47 Tryd.func47 rfl rfl rfl ?_
  refine call_rule H (fun M I _ h => lenB n hx _ M I h) fun L w1 hL H1 => ?_
  obtain ⟨hL1, hL2⟩ := hL
  refine quo_as ((sizeB n : Nat) : Int) (by decide) (by
    show IntKind.i64.wrap ((IntKind.i64.wrap (IntKind.i64.wrap ((L : Int) + 8) - 1)).tdiv 8) = _
    rw [w64 (n := (L : Int) + 8) (by omega) (by omega), w64 (n := (L : Int) + 8 - 1) (by omega) (by omega), show (L : Int) + 8 - 1 = ((L + 7 : Nat) : Int) by omega, show (((L + 7 : Nat) : Int)).tdiv 8 = (((L + 7) / 8 : Nat) : Int) from (Int.ofNat_tdiv (L + 7) 8).symm, hL2]
    exact w64 (by omega) (by omega)) ?_
  have H1 : Hp ⟨w, M, I⟩ [blk q [.slice A m c] 71, row 5 1 (.slice A m c) m (byC bs)] [] w1 := H1.keep
  refine load_rule tok H1 (v := .slice A m c) rfl ?_
  refine slice_as tok H1 [.int .u8 (IntKind.u8.wrap ((mark : Int) + IntKind.u8.wrap ((sizeB n : Nat) : Int)))] rfl rfl rfl rfl rfl rfl fun g w2 H2 => ?_
  refine append_rule (v := .slice A m c) (b := g) (m := 1) (c := 1) tok H2 rfl rfl rfl rfl rfl rfl rfl rfl (by show (m + 1) * 1 ≤ _; omega) (by omega) fun A2 c2 w3 H3 => ?_
  refine store_as tok H3 [.slice A2 (m + 1) c2] rfl rfl rfl rfl rfl fun w4 H4 => ?_
  have eh : IntKind.u8.wrap ((mark : Int) + IntKind.u8.wrap ((sizeB n : Nat) : Int)) = ((mark + sizeB n : Nat) : Int) := by
    have e1 : IntKind.u8.wrap ((sizeB n : Nat) : Int) = (sizeB n : Nat) := wrap_id ⟨by show (0 : Int) ≤ _; omega, by show _ ≤ (255 : Int); omega⟩
    rw [e1, wrap_id (k := .u8) ⟨by show (0 : Int) ≤ _; omega, by show _ ≤ (255 : Int); omega⟩]; omega
  have H4 : Hp ⟨w, M, I⟩ [blk q [.slice A2 (m + 1) c2] 71, row 5 1 (.slice A2 (m + 1) c2) (m + 1) (byC bs ++ [.int .u8 (IntKind.u8.wrap ((mark : Int) + IntKind.u8.wrap ((sizeB n : Nat) : Int)))])] [] w4 := H4.keep
  have eb : byC bs ++ [.int .u8 (IntKind.u8.wrap ((mark : Int) + IntKind.u8.wrap ((sizeB n : Nat) : Int)))] = byC (bs ++ [mark + sizeB n] ++ []) := by
    rw [eh]; simp [byC]
  rw [eb] at H4
  refine loop_rule tok (σ := Nat × SV × List Nat) 562947805937920 (fun s => [(8, .int .i64 ((s.1 : Int) - 1))])
    (fun s w' => s.1 ≤ sizeB n ∧ s.2.1.n + s.1 = m + 1 + sizeB n ∧ s.2.2 ++ bigE n s.1 = bigE n (sizeB n) ∧ Hp ⟨w, M, I⟩ [blk q [.slice s.2.1.A s.2.1.n s.2.1.c] 71, row 5 1 (.slice s.2.1.A s.2.1.n s.2.1.c) s.2.1.n (byC (bs ++ [mark + sizeB n] ++ s.2.2))] [] w') (fun s => s.1) (sizeB n, ⟨A2, m + 1, c2⟩, []) rfl rfl ⟨?_, trivial⟩ ⟨Nat.le_refl _, rfl, rfl, H4⟩ ?_
  · show Value.int .i64 (IntKind.i64.wrap (((sizeB n : Nat) : Int) - 1)) = _
    rw [w64 (by omega) (by omega)]
  rintro ⟨k, ⟨A3, m3, c3⟩, pre⟩ j w5 ⟨hk, hm3, hpre, H5⟩
  simp only at hk hm3 hpre H5
  refine brd (fun h => ?_) (fun h => ?_)
  · have h : (0 : Int) ≤ (k : Int) - 1 := h
    obtain ⟨k, rfl⟩ : ∃ k', k = k' + 1 := ⟨k - 1, by omega⟩
    have ey : IntKind.i64.wrap (8 * (((k + 1 : Nat) : Int) - 1)) = ((8 * k : Nat) : Int) := by
      rw [w64 (by omega) (by omega)]; omega
    refine draw_rule (A := [blk q [.slice A3 m3 c3] 71, row 5 1 (.slice A3 m3 c3) m3 (byC (bs ++ [mark + sizeB n] ++ pre))]) tok tdr H5 [1, 2, 3, 4, 5, 6, 7, 8, 9, 10, 11, 0, 12, 13, 14] [0, 0, 2, 6, 14, 0, 0, 64, 224, 480, 992, 2046, 4095, 8191, 16383] rfl ?_
    refine pass_last _ rfl (fun X w h => load_rule tok h (v := .slice A3 m3 c3) rfl ⟨rfl, rfl⟩) ?_
    refine pass_rule (.int .u64 ((n / 256 ^ k : Nat) : Int)) (fun w h => shr_as ((n / 256 ^ k : Nat) : Int) ?_ ?_ ⟨rfl, rfl⟩) ?_
    · show (0 : Int) ≤ IntKind.i64.wrap (8 * (((k + 1 : Nat) : Int) - 1))
      rw [ey]; omega
    · show (n : Int).fdiv (2 ^ min (IntKind.i64.wrap (8 * (((k + 1 : Nat) : Int) - 1))).toNat IntKind.u64.bits) = _
      rw [ey, shr_div (k := .u64) (show 8 * k ≤ 64 by omega), Nat.pow_mul]
    refine fresh_slice tok [.int .u8 (IntKind.u8.wrap ((n / 256 ^ k : Nat) : Int))] rfl rfl rfl rfl rfl rfl rfl fun g => ?_
    refine imp_rule (fun X wx h => append_rule (v := .slice A3 m3 c3) (b := g) (m := 1) (c := 1) tok h rfl rfl rfl rfl rfl rfl rfl rfl (by show (m3 + 1) * 1 ≤ _; omega) (by omega) fun A4 c4 w1 H1 => imp_done H1 ?_)
    refine imp_rule (fun X wx h => store_as tok h [.slice A4 (m3 + 1) c4] rfl rfl rfl rfl rfl fun w1 H1 => imp_done H1 ?_)
    refine done_rule fun w6 H6 => ?_
    refine Exists.intro (k, ⟨A4, m3 + 1, c4⟩, pre ++ [n / 256 ^ k % 256]) (And.intro ⟨?_, trivial⟩ (And.intro ?_ ⟨?_, ?_, ?_, ?_⟩))
    · show Value.int .i64 (IntKind.i64.wrap ((((k + 1 : Nat) : Int) - 1) - 1)) = Value.int .i64 ((k : Int) - 1)
      rw [w64 (by omega) (by omega)]; congr 1; omega
    · simp only; omega
    · simp only; omega
    · simp only; omega
    · simp only [List.append_assoc, List.cons_append, List.nil_append]
      exact hpre
    · have e : byC (bs ++ [mark + sizeB n] ++ (pre ++ [n / 256 ^ k % 256])) = byC (bs ++ [mark + sizeB n] ++ pre) ++ [.int .u8 (IntKind.u8.wrap ((n / 256 ^ k : Nat) : Int))] := by
        rw [wrap_u8]; simp [byC]
      have H7 : Hp ⟨w, M, I⟩ [blk q [.slice A4 (m3 + 1) c4] 71, row 5 1 (.slice A4 (m3 + 1) c4) (m3 + 1) (byC (bs ++ [mark + sizeB n] ++ pre) ++ [.int .u8 (IntKind.u8.wrap ((n / 256 ^ k : Nat) : Int))])] [] w6 := H6.keep
      rw [← e] at H7
      exact H7
  · have h : ¬ (0 : Int) ≤ (k : Int) - 1 := h
    have h0 : k = 0 := by omega
    subst h0
    have hpre : pre = bigE n (sizeB n) := by rw [← hpre]; simp [bigE]
    have hl2 : (numB n mark).length = 1 + sizeB n := by simp [numB, bigE_len]; omega
    have H7 : Hp ⟨w, M, I⟩ (quillA q ⟨A3, m3, c3⟩ (bs ++ numB n mark)) [] w5 := by
      have e : bs ++ numB n mark = bs ++ [mark + sizeB n] ++ pre := by rw [hpre]; simp [numB]
      rw [e]
      exact H5
    exact Exists.intro ⟨A3, m3, c3⟩ (And.intro rfl (And.intro (by show m3 = m + _; omega) H7))
end Go.Proofs.YtenpgmnknmnofaaDoor
