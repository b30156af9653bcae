/- A day in words: the walks. -/
import Derived.Test.YtgbmambkgcjhfaaGreatDoorD15
import Derived.Lib.ItoaLen
set_option linter.unusedVariables false
namespace Go.Proofs.YtgbmambkgcjhfaaGreatDoor
open Go Go.Proofs Go.Wk
theorem strOf_app (a b : List UInt8) : strOf a ++ strOf b = strOf (a ++ b) := by
  apply ByteArray.ext
  rw [ByteArray.data_append]
  show a.toArray ++ b.toArray = (a ++ b).toArray
  simp
theorem strOf_size (a : List UInt8) : (strOf a).size = a.length := by
  show a.toArray.size = _
  simp
theorem strOf_data (a : List UInt8) : (strOf a).data.toList = a := by
  show a.toArray.toList = a
  simp
theorem strOf_of (s : ByteArray) : strOf s.data.toList = s := by
  apply ByteArray.ext
  show s.data.toList.toArray = s.data
  simp
theorem sadd_as {P : Program} {K : Value → World → Prop} {w : World} {t : TypeId} {ox oy : Operand} {x y : ByteArray} (v : ByteArray) (hv : x ++ y = v) (hz : v.size ≤ 9223372036854775807) (h : K (.string v) w) : BinK P K w .add t ox oy (.string x) (.string y) := by
  subst hv
  refine BinK.of ?_ h
  rw [ByteArray.size_append] at hz
  simp [binS, eqGuard, binOp, Op.stringOp]
  omega
/-- A number in so many digits. -/
def padL (n size : Int) : List UInt8 := List.replicate (size.toNat - (Lib.itoa n).length) 48 ++ Lib.itoa n
theorem padL_len {n size : Int} (h : inK .i64 n) (hs : size ≤ 1000) : (padL n size).length ≤ 1021 := by
  have := Lib.itoa_length_le n h.1 h.2
  unfold padL
  rw [List.length_append, List.length_replicate]; omega
theorem pad (n size : Int) (h : inK .i64 n) (hs0 : 0 ≤ size) (hs : size ≤ 1000) (w : World) (M I : BS) (H : Hp ⟨w, M, I⟩ [] [LibF] w) :
    Ctr Tryz.prog 97 [.int .i64 n, .int .i64 size] w M I (fun _ : Unit => .string (strOf (padL n size))) (fun _ => True) (fun _ => []) (fun _ => []) := by
  refine Exe.of_ev tok Tryz.call97 Tryz.func97 rfl rfl rfl ?_
  refine call_rule H (fun M I _ hh => itoa n h _ M I hh) fun _ w1 _ H1 => ?_
  refine loop_rule tok (σ := Nat) 16160 (fun k => [(5, .string (strOf (List.replicate k 48 ++ Lib.itoa n)))]) (fun k w' => k ≤ size.toNat - (Lib.itoa n).length ∧ Hp ⟨w, M, I⟩ [] [] w') (fun k => size.toNat - k) 0 rfl rfl ⟨rfl, trivial⟩ ⟨Nat.zero_le _, Hp.keep H1⟩ ?_
  intro k j w2 hW
  have hk := hW.1
  have H2 := hW.2
  have el : (((strOf (List.replicate k 48 ++ Lib.itoa n)).size : Nat) : Int) = (k : Int) + (Lib.itoa n).length := by rw [strOf_size]; simp
  refine brd (fun hlt => ?_) (fun hge => ?_)
  · rw [el] at hlt
    have e : (⟨#[48]⟩ : ByteArray) ++ strOf (List.replicate k 48 ++ Lib.itoa n) = strOf (List.replicate (k + 1) 48 ++ Lib.itoa n) := by
      rw [show (⟨#[48]⟩ : ByteArray) = strOf [48] from rfl, strOf_app]
      rfl
    have hil := Lib.itoa_length_le n h.1 h.2
    refine sadd_as (strOf (List.replicate (k + 1) 48 ++ Lib.itoa n)) e (by rw [strOf_size, List.length_append, List.length_replicate]; omega) ?_
    exact Exists.intro (k + 1) (And.intro ⟨rfl, trivial⟩ (And.intro (by show size.toNat - (k + 1) < size.toNat - k; omega) ⟨by omega, H2⟩))
  · rw [el] at hge
    have ek : k = size.toNat - (Lib.itoa n).length := by omega
    refine Exists.intro () (And.intro (congrArg Value.string ?_) (And.intro trivial H2))
    rw [ek]; rfl
/-- A date in words. -/
def datL (y m d : Int) : List UInt8 := padL y 4 ++ [45] ++ padL m 2 ++ [45] ++ padL d 2
theorem dayText (n : Int) (hd : dayB n = true) (w : World) (M I : BS) (H : Hp ⟨w, M, I⟩ [] [LibF] w) :
    Ctr Tryz.prog 48 [.int .i32 n] w M I (fun a : Int × Int × Int => .string (strOf (datL a.1 a.2.1 a.2.2))) (fun a => Dat a.1 a.2.1 a.2.2 ∧ numD a.1 a.2.1 a.2.2 = n) (fun _ => []) (fun _ => []) := by
  refine Exe.of_ev tok Tryz.call48 Tryz.func48 rfl rfl rfl ?_
  refine call_rule H (fun M I _ h => civil n hd _ M I h) fun a w1 ha H1 => ?_
  have hD := ha.1
  have b1 : ∀ x : Int, 0 ≤ x → x ≤ 100000 → inK .i64 x := fun x h0 h1 => ⟨by show (-9223372036854775808 : Int) ≤ x; omega, by show x ≤ (9223372036854775807 : Int); omega⟩
  have hl := len_pos (y := a.1) (m := a.2.1)
  have h1 := hD.y1
  have h2 := hD.y2
  have h3 := hD.m1
  have h4 := hD.m2
  have h5 := hD.d1
  have h6 := hD.d2
  refine alloc_as tok H1 (civC 0 0 0) rfl rfl rfl fun c w2 H2 => ?_
  refine store_as tok H2 (civC a.1 a.2.1 a.2.2) rfl rfl rfl rfl rfl fun w3 H3 => ?_
  have H3 : Hp ⟨w, M, I⟩ [blk c (civC a.1 a.2.1 a.2.2) 155] [LibF] w3 := Hp.keep H3
  have p1 := padL_len (n := a.1) (size := 4) (b1 _ (by omega) (by omega)) (by decide)
  have p2 := padL_len (n := a.2.1) (size := 2) (b1 _ (by omega) (by omega)) (by decide)
  have p3 := padL_len (n := a.2.2) (size := 2) (b1 _ (by omega) (by omega)) (by decide)
  have c45 : (⟨#[45]⟩ : ByteArray) = strOf [45] := rfl
  refine draw_rule (A := []) tok tdr H3 [0, 1, 2, 4, 5, 6, 9, 10, 11, 3, 7, 8, 12, 13] [0, 1, 3, 7, 0, 16, 55, 127, 255, 0, 512, 1655, 4095, 8191] rfl ?_
  refine pass_rule _ (fun w h => load_rule tok h (v := .int .i64 a.1) rfl ⟨rfl, rfl⟩) ?_
  refine imp_rule (fun X wx h => call_rule h (fun M I _ h => pad a.1 4 (b1 _ (by omega) (by omega)) (by decide) (by decide) _ M I h) fun _ w1 _ H1 => imp_done H1 ?_)
  refine pass_rule _ (fun w h => load_rule tok h (v := .int .i64 a.2.1) rfl ⟨rfl, rfl⟩) ?_
  refine imp_rule (fun X wx h => call_rule h (fun M I _ h => pad a.2.1 2 (b1 _ (by omega) (by omega)) (by decide) (by decide) _ M I h) fun _ w1 _ H1 => imp_done H1 ?_)
  refine pass_rule _ (fun w h => load_rule tok h (v := .int .i64 a.2.2) rfl ⟨rfl, rfl⟩) ?_
  refine imp_rule (fun X wx h => call_rule h (fun M I _ h => pad a.2.2 2 (b1 _ (by omega) (by omega)) (by decide) (by decide) _ M I h) fun _ w1 _ H1 => imp_done H1 ?_)
  refine pass_rule _ (fun w h => sadd_as (strOf (padL a.1 4 ++ [45])) (by rw [c45, strOf_app]) (by rw [strOf_size]; simp only [List.length_append, List.length_cons, List.length_nil]; omega) ⟨rfl, rfl⟩) ?_
  refine pass_rule _ (fun w h => sadd_as (strOf (padL a.1 4 ++ [45] ++ padL a.2.1 2)) (strOf_app _ _) (by rw [strOf_size]; simp only [List.length_append, List.length_cons, List.length_nil]; omega) ⟨rfl, rfl⟩) ?_
  refine pass_rule _ (fun w h => sadd_as (strOf (padL a.1 4 ++ [45] ++ padL a.2.1 2 ++ [45])) (by rw [c45, strOf_app]) (by rw [strOf_size]; simp only [List.length_append, List.length_cons, List.length_nil]; omega) ⟨rfl, rfl⟩) ?_
  refine pass_rule _ (fun w h => sadd_as (strOf (datL a.1 a.2.1 a.2.2)) (strOf_app _ _) (by rw [strOf_size]; unfold datL; simp only [List.length_append, List.length_cons, List.length_nil]; omega) ⟨rfl, rfl⟩) ?_
  refine done_rule fun w4 H4 => ?_
  exact Exists.intro a (And.intro rfl (And.intro ha (Hp.keep H4)))
end Go.Proofs.YtgbmambkgcjhfaaGreatDoor
