/- An amount in words: the walk. Printed by gen19.py. -/
import Derived.Test.YtgbmambkgcjhfaaGreatDoorD18
set_option linter.unusedVariables false
namespace Go.Proofs.YtgbmambkgcjhfaaGreatDoor
open Go Go.Proofs Go.Wk Go.RowKit
/-- An amount in words. -/
def coinL (c : Int) : List UInt8 := (if c < 0 then [45] else []) ++ Lib.decDigits (c.natAbs / 100) ++ [46] ++ [UInt8.ofNat (48 + c.natAbs % 100 / 10), UInt8.ofNat (48 + c.natAbs % 100 % 10)]
theorem digB {x : Nat} (h : x < 10) : IntKind.u8.wrap (IntKind.u64.wrap (48 + (x : Int))) = (((UInt8.ofNat (48 + x)).toNat : Nat) : Int) := by
  rw [u64w]
  have e : (UInt8.ofNat (48 + x)).toNat = 48 + x := by simp [UInt8.toNat_ofNat]; omega
  rw [e]
  have : (48 + (x : Int)) % 18446744073709551616 = 48 + x := by omega
  rw [this]
  exact wrap_id ⟨by show (0 : Int) ≤ _; omega, by show _ ≤ (255 : Int); omega⟩
theorem tdivNat (x k : Nat) (h : x < 18446744073709551616) : IntKind.u64.wrap (((x : Nat) : Int).tdiv ((k : Nat) : Int)) = ((x / k : Nat) : Int) := u64n (Nat.lt_of_le_of_lt (Nat.div_le_self _ _) h)
theorem coinText1 (n : Nat) (hn : n < 18446744073709551616) : Lib.nDigits (n / 100) ≤ 20 := Lib.nDigits_le20 (n / 100) (by omega)
set_option maxRecDepth 20000 in
set_option maxHeartbeats 1000000 in
theorem coinText (c : Int) (hc : inK .i64 c) (w : World) (M I : BS) (H : Hp ⟨w, M, I⟩ [] [LibF] w) :
    Ctr Tryz.prog 49 [.int .i64 c] w M I (fun _ : Unit => .string (strOf (coinL c))) (fun _ => True) (fun _ => []) (fun _ => []) := by
  obtain ⟨hc0, hc1⟩ := hc
  simp only [kLo, kHi] at hc0 hc1
  have hnl : c.natAbs < 18446744073709551616 := by omega
  have hd := coinText1 c.natAbs hnl
  have hm : c.natAbs % 100 < 100 := Nat.mod_lt _ (by decide)
  have eq2 : IntKind.u64.wrap ((((c.natAbs % 100 : Nat) : Int)).tdiv 10) = ((c.natAbs % 100 / 10 : Nat) : Int) := tdivNat _ 10 (by omega)
  have er2 : (((c.natAbs % 100 : Nat) : Int)).tmod 10 = ((c.natAbs % 100 % 10 : Nat) : Int) := rfl
  have b1 := digB (x := c.natAbs % 100 / 10) (by omega)
  have b2 := digB (x := c.natAbs % 100 % 10) (by omega)
  have c46 : (⟨#[46]⟩ : ByteArray) = strOf [46] := rfl
  have c45 : (⟨#[45]⟩ : ByteArray) = strOf [45] := rfl
  have c0 : (⟨#[]⟩ : ByteArray) = strOf [] := rfl
  refine Exe.of_ev tok Tryz.call49 Tryz.func49 rfl rfl rfl ?_
  refine brd (fun hneg => ?_) (fun hpos => ?_)
  · have en : IntKind.u64.wrap (0 - IntKind.u64.wrap c) = (c.natAbs : Int) := by rw [u64w, u64w]; omega
    have er : (IntKind.u64.wrap (0 - IntKind.u64.wrap c)).tmod 100 = ((c.natAbs % 100 : Nat) : Int) := by rw [en]; rfl
    have eq : IntKind.u64.wrap ((IntKind.u64.wrap (0 - IntKind.u64.wrap c)).tdiv 100) = ((c.natAbs / 100 : Nat) : Int) := by rw [en]; exact tdivNat _ 100 hnl
    refine rem_as ((c.natAbs % 100 : Nat) : Int) (by decide) er ?_
    refine draw_rule (A := []) tok tdr H [1, 2, 3, 0, 4, 5, 6, 7, 8, 9, 10, 11, 12, 13, 14, 15, 16, 17] [0, 0, 2, 6, 15, 31, 0, 64, 192, 448, 0, 1024, 3072, 7168, 16320, 32704, 65535, 131071] rfl ?_
    refine pass_rule _ (fun w h => quo_as ((c.natAbs / 100 : Nat) : Int) (by decide) eq ⟨rfl, rfl⟩) ?_
    refine imp_rule (fun X wx h => call_rule h (fun M I _ h => formatUint (c.natAbs / 100) (by omega) _ M I h) fun _ w1 _ H1 => imp_done H1 ?_)
    refine pass_rule _ (fun w h => sadd_as (strOf ([45] ++ Lib.decDigits (c.natAbs / 100))) (by rw [c45, strOf_app]) (by rw [strOf_size]; simp [Lib.decDigits_length]; omega) ⟨rfl, rfl⟩) ?_
    refine pass_rule _ (fun w h => sadd_as (strOf ([45] ++ Lib.decDigits (c.natAbs / 100) ++ [46])) (by rw [c46, strOf_app]) (by rw [strOf_size]; simp [Lib.decDigits_length]; omega) ⟨rfl, rfl⟩) ?_
    refine pass_rule _ (fun w h => quo_as ((c.natAbs % 100 / 10 : Nat) : Int) (by decide) eq2 ⟨rfl, rfl⟩) ?_
    refine pass_rule _ (fun w h => rem_as ((c.natAbs % 100 % 10 : Nat) : Int) (by decide) er2 ⟨rfl, rfl⟩) ?_
    refine fresh_slice tok [.int .u8 (IntKind.u8.wrap (IntKind.u64.wrap (48 + ((c.natAbs % 100 / 10 : Nat) : Int)))), .int .u8 (IntKind.u8.wrap (IntKind.u64.wrap (48 + ((c.natAbs % 100 % 10 : Nat) : Int))))] rfl rfl rfl rfl rfl rfl rfl fun g => ?_
    refine pass_born 14 _ rfl (fun X w h => strB_rule tok h [UInt8.ofNat (48 + c.natAbs % 100 / 10), UInt8.ofNat (48 + c.natAbs % 100 % 10)] rfl rfl rfl rfl (by rw [b1, b2]; rfl) ⟨rfl, rfl⟩) ?_
    refine pass_rule _ (fun w h => sadd_as (strOf ([45] ++ Lib.decDigits (c.natAbs / 100) ++ [46] ++ [UInt8.ofNat (48 + c.natAbs % 100 / 10), UInt8.ofNat (48 + c.natAbs % 100 % 10)])) (strOf_app _ _).symm (by rw [strOf_size]; simp [Lib.decDigits_length]; omega) ⟨rfl, rfl⟩) ?_
    refine done_rule fun w9 H9 => ?_
    have e9 : strOf ([45] ++ Lib.decDigits (c.natAbs / 100) ++ [46] ++ [UInt8.ofNat (48 + c.natAbs % 100 / 10), UInt8.ofNat (48 + c.natAbs % 100 % 10)]) = strOf (coinL c) := by unfold coinL; rw [if_pos hneg]
    exact Exists.intro () (And.intro (congrArg Value.string e9) (And.intro trivial (Hp.keep H9)))
  · have en : IntKind.u64.wrap c = (c.natAbs : Int) := by rw [u64w]; omega
    have er : (IntKind.u64.wrap c).tmod 100 = ((c.natAbs % 100 : Nat) : Int) := by rw [en]; rfl
    have eq : IntKind.u64.wrap ((IntKind.u64.wrap c).tdiv 100) = ((c.natAbs / 100 : Nat) : Int) := by rw [en]; exact tdivNat _ 100 hnl
    refine rem_as ((c.natAbs % 100 : Nat) : Int) (by decide) er ?_
    refine draw_rule (A := []) tok tdr H [1, 2, 3, 0, 4, 5, 6, 7, 8, 9, 10, 11, 12, 13, 14, 15, 16, 17] [0, 0, 2, 6, 15, 31, 0, 64, 192, 448, 0, 1024, 3072, 7168, 16320, 32704, 65535, 131071] rfl ?_
    refine pass_rule _ (fun w h => quo_as ((c.natAbs / 100 : Nat) : Int) (by decide) eq ⟨rfl, rfl⟩) ?_
    refine imp_rule (fun X wx h => call_rule h (fun M I _ h => formatUint (c.natAbs / 100) (by omega) _ M I h) fun _ w1 _ H1 => imp_done H1 ?_)
    refine pass_rule _ (fun w h => sadd_as (strOf ([] ++ Lib.decDigits (c.natAbs / 100))) (by rw [c0, strOf_app]) (by rw [strOf_size]; simp [Lib.decDigits_length]; omega) ⟨rfl, rfl⟩) ?_
    refine pass_rule _ (fun w h => sadd_as (strOf ([] ++ Lib.decDigits (c.natAbs / 100) ++ [46])) (by rw [c46, strOf_app]) (by rw [strOf_size]; simp [Lib.decDigits_length]; omega) ⟨rfl, rfl⟩) ?_
    refine pass_rule _ (fun w h => quo_as ((c.natAbs % 100 / 10 : Nat) : Int) (by decide) eq2 ⟨rfl, rfl⟩) ?_
    refine pass_rule _ (fun w h => rem_as ((c.natAbs % 100 % 10 : Nat) : Int) (by decide) er2 ⟨rfl, rfl⟩) ?_
    refine fresh_slice tok [.int .u8 (IntKind.u8.wrap (IntKind.u64.wrap (48 + ((c.natAbs % 100 / 10 : Nat) : Int)))), .int .u8 (IntKind.u8.wrap (IntKind.u64.wrap (48 + ((c.natAbs % 100 % 10 : Nat) : Int))))] rfl rfl rfl rfl rfl rfl rfl fun g => ?_
    refine pass_born 14 _ rfl (fun X w h => strB_rule tok h [UInt8.ofNat (48 + c.natAbs % 100 / 10), UInt8.ofNat (48 + c.natAbs % 100 % 10)] rfl rfl rfl rfl (by rw [b1, b2]; rfl) ⟨rfl, rfl⟩) ?_
    refine pass_rule _ (fun w h => sadd_as (strOf ([] ++ Lib.decDigits (c.natAbs / 100) ++ [46] ++ [UInt8.ofNat (48 + c.natAbs % 100 / 10), UInt8.ofNat (48 + c.natAbs % 100 % 10)])) (strOf_app _ _).symm (by rw [strOf_size]; simp [Lib.decDigits_length]; omega) ⟨rfl, rfl⟩) ?_
    refine done_rule fun w9 H9 => ?_
    have e9 : strOf ([] ++ Lib.decDigits (c.natAbs / 100) ++ [46] ++ [UInt8.ofNat (48 + c.natAbs % 100 / 10), UInt8.ofNat (48 + c.natAbs % 100 % 10)]) = strOf (coinL c) := by unfold coinL; rw [if_neg hpos]
    exact Exists.intro () (And.intro (congrArg Value.string e9) (And.intro trivial (Hp.keep H9)))
end Go.Proofs.YtgbmambkgcjhfaaGreatDoor
