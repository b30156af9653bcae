/- A day in words: the walks. -/
import Derived.Test.YtjlfjjgjghdokaaGreatDoorLy11
import Derived.Lib.ItoaLen
import Derived.Lib.ItoaMem
import Derived.Laws.Slices
import Derived.Laws.BytesString
import Derived.LaidEql
set_option linter.unusedVariables false
namespace Go.Proofs.YtjlfjjgjghdokaaGreatDoor
open Go Go.Proofs Go.Wk
theorem strOf_app (a b : List UInt8) : strOf a ++ strOf b = strOf (a ++ b) := by
  apply ByteArray.ext
  rw [ByteArray.data_append]
  show a.toArray ++ b.toArray = (a ++ b).toArray
  simp
theorem strOf_size (a : List UInt8) : (strOf a).size = a.length := by
  show a.toArray.size = _
  simp
theorem strOf_data (a : List UInt8) : (strOf a).data.toList = a := by
  show a.toArray.toList = a
  simp
theorem strOf_of (s : ByteArray) : strOf s.data.toList = s := by
  apply ByteArray.ext
  show s.data.toList.toArray = s.data
  simp
theorem sadd_as {P : Program} {K : Value → World → Prop} {w : World} {t : TypeId} {ox oy : Operand} {x y : ByteArray} (v : ByteArray) (hv : x ++ y = v) (hz : v.size ≤ 9223372036854775807) (h : K (.string v) w) : BinK P K w .add t ox oy (.string x) (.string y) := by
  subst hv
  refine BinK.of ?_ h
  rw [ByteArray.size_append] at hz
  simp [binS, eqGuard, binOp, Op.stringOp]
  omega
/-- A number in so many digits. -/
def padL (n size : Int) : List UInt8 := List.replicate (size.toNat - (Lib.itoa n).length) 48 ++ Lib.itoa n
theorem padL_len {n size : Int} (h : inK .i64 n) (hs : size ≤ 1000) : (padL n size).length ≤ 1021 := by
  have := Lib.itoa_length_le n h.1 h.2
  unfold padL
  rw [List.length_append, List.length_replicate]; omega
theorem pad (n size : Int) (h : inK .i64 n) (hs0 : 0 ≤ size) (hs : size ≤ 1000) (w : World) (M I : BS) (H : Hp ⟨w, M, I⟩ [] [LibF] w) :
    Ctr Tryz.prog 201 [.int .i64 n, .int .i64 size] w M I (fun _ : Unit => .string (strOf (padL n size))) (fun _ => True) (fun _ => []) (fun _ => []) := by
  refine Exe.of_ev tok Tryz.call201 Tryz.func201 rfl rfl rfl ?_
  refine call_rule H (fun M I _ hh => itoa n h _ M I hh) fun _ w1 _ H1 => ?_
  refine loop_rule tok (σ := Nat) 16160 (fun k => [(5, .string (strOf (List.replicate k 48 ++ Lib.itoa n)))]) (fun k w' => k ≤ size.toNat - (Lib.itoa n).length ∧ Hp ⟨w, M, I⟩ [] [] w') (fun k => size.toNat - k) 0 rfl rfl ⟨rfl, trivial⟩ ⟨Nat.zero_le _, Hp.keep H1⟩ ?_
  intro k j w2 hW
  have hk := hW.1
  have H2 := hW.2
  have el : (((strOf (List.replicate k 48 ++ Lib.itoa n)).size : Nat) : Int) = (k : Int) + (Lib.itoa n).length := by rw [strOf_size]; simp
  refine brd (fun hlt => ?_) (fun hge => ?_)
  · rw [el] at hlt
    have e : (⟨#[48]⟩ : ByteArray) ++ strOf (List.replicate k 48 ++ Lib.itoa n) = strOf (List.replicate (k + 1) 48 ++ Lib.itoa n) := by
      rw [show (⟨#[48]⟩ : ByteArray) = strOf [48] from rfl, strOf_app]
      rfl
    have hil := Lib.itoa_length_le n h.1 h.2
    refine sadd_as (strOf (List.replicate (k + 1) 48 ++ Lib.itoa n)) e (by rw [strOf_size, List.length_append, List.length_replicate]; omega) ?_
    exact Exists.intro (k + 1) (And.intro ⟨rfl, trivial⟩ (And.intro (by show size.toNat - (k + 1) < size.toNat - k; omega) ⟨by omega, H2⟩))
  · rw [el] at hge
    have ek : k = size.toNat - (Lib.itoa n).length := by omega
    refine Exists.intro () (And.intro (congrArg Value.string ?_) (And.intro trivial H2))
    rw [ek]; rfl
/-- A date in words. -/
def datL (y m d : Int) : List UInt8 := padL y 4 ++ [45] ++ padL m 2 ++ [45] ++ padL d 2
theorem dayText (n : Int) (hd : dayB n = true) (w : World) (M I : BS) (H : Hp ⟨w, M, I⟩ [] [LibF] w) :
    Ctr Tryz.prog 142 [.int .i32 n] w M I (fun a : Int × Int × Int => .string (strOf (datL a.1 a.2.1 a.2.2))) (fun a => Dat a.1 a.2.1 a.2.2 ∧ numD a.1 a.2.1 a.2.2 = n) (fun _ => []) (fun _ => []) := by
  refine Exe.of_ev tok Tryz.call142 Tryz.func142 rfl rfl rfl ?_
  refine call_rule H (fun M I _ h => civil n hd _ M I h) fun a w1 ha H1 => ?_
  have hD := ha.1
  have b1 : ∀ x : Int, 0 ≤ x → x ≤ 100000 → inK .i64 x := fun x h0 h1 => ⟨by show (-9223372036854775808 : Int) ≤ x; omega, by show x ≤ (9223372036854775807 : Int); omega⟩
  have hl := len_pos (y := a.1) (m := a.2.1)
  have h1 := hD.y1
  have h2 := hD.y2
  have h3 := hD.m1
  have h4 := hD.m2
  have h5 := hD.d1
  have h6 := hD.d2
  refine alloc_as tok H1 (civC 0 0 0) rfl rfl rfl fun c w2 H2 => ?_
  refine store_as tok H2 (civC a.1 a.2.1 a.2.2) rfl rfl rfl rfl rfl fun w3 H3 => ?_
  have H3 : Hp ⟨w, M, I⟩ [blk c (civC a.1 a.2.1 a.2.2) 258] [LibF] w3 := Hp.keep H3
  have p1 := padL_len (n := a.1) (size := 4) (b1 _ (by omega) (by omega)) (by decide)
  have p2 := padL_len (n := a.2.1) (size := 2) (b1 _ (by omega) (by omega)) (by decide)
  have p3 := padL_len (n := a.2.2) (size := 2) (b1 _ (by omega) (by omega)) (by decide)
  have c45 : (⟨#[45]⟩ : ByteArray) = strOf [45] := rfl
  refine draw_rule (A := []) tok tdr H3 [0, 1, 2, 4, 5, 6, 9, 10, 11, 3, 7, 8, 12, 13] [0, 1, 3, 7, 0, 16, 55, 127, 255, 0, 512, 1655, 4095, 8191] rfl ?_
  refine pass_rule _ (fun w h => load_rule tok h (v := .int .i64 a.1) rfl ⟨rfl, rfl⟩) ?_
  refine imp_rule (fun X wx h => call_rule h (fun M I _ h => pad a.1 4 (b1 _ (by omega) (by omega)) (by decide) (by decide) _ M I h) fun _ w1 _ H1 => imp_done H1 ?_)
  refine pass_rule _ (fun w h => load_rule tok h (v := .int .i64 a.2.1) rfl ⟨rfl, rfl⟩) ?_
  refine imp_rule (fun X wx h => call_rule h (fun M I _ h => pad a.2.1 2 (b1 _ (by omega) (by omega)) (by decide) (by decide) _ M I h) fun _ w1 _ H1 => imp_done H1 ?_)
  refine pass_rule _ (fun w h => load_rule tok h (v := .int .i64 a.2.2) rfl ⟨rfl, rfl⟩) ?_
  refine imp_rule (fun X wx h => call_rule h (fun M I _ h => pad a.2.2 2 (b1 _ (by omega) (by omega)) (by decide) (by decide) _ M I h) fun _ w1 _ H1 => imp_done H1 ?_)
  refine pass_rule _ (fun w h => sadd_as (strOf (padL a.1 4 ++ [45])) (by rw [c45, strOf_app]) (by rw [strOf_size]; simp only [List.length_append, List.length_cons, List.length_nil]; omega) ⟨rfl, rfl⟩) ?_
  refine pass_rule _ (fun w h => sadd_as (strOf (padL a.1 4 ++ [45] ++ padL a.2.1 2)) (strOf_app _ _) (by rw [strOf_size]; simp only [List.length_append, List.length_cons, List.length_nil]; omega) ⟨rfl, rfl⟩) ?_
  refine pass_rule _ (fun w h => sadd_as (strOf (padL a.1 4 ++ [45] ++ padL a.2.1 2 ++ [45])) (by rw [c45, strOf_app]) (by rw [strOf_size]; simp only [List.length_append, List.length_cons, List.length_nil]; omega) ⟨rfl, rfl⟩) ?_
  refine pass_rule _ (fun w h => sadd_as (strOf (datL a.1 a.2.1 a.2.2)) (strOf_app _ _) (by rw [strOf_size]; unfold datL; simp only [List.length_append, List.length_cons, List.length_nil]; omega) ⟨rfl, rfl⟩) ?_
  refine done_rule fun w4 H4 => ?_
  exact Exists.intro a (And.intro rfl (And.intro ha (Hp.keep H4)))
end Go.Proofs.YtjlfjjgjghdokaaGreatDoor
/- Kinds and bases by their names: the walks. -/
set_option linter.unusedVariables false
namespace Go.Proofs.YtjlfjjgjghdokaaGreatDoor
open Go Go.Proofs Go.Wk
def spName (k : Int) : ByteArray := if k = 1 then ⟨#[97, 99, 116, 117, 97, 108]⟩ else if k = 2 then ⟨#[116, 104, 105, 114, 116, 121]⟩ else ⟨#[]⟩
theorem spanName (k : Int) : CB 144 [.int .u8 k] (.string (spName k)) := by
  intro w M I H
  refine Exe.of_ev tok Tryz.call144 Tryz.func144 rfl rfl rfl ?_
  refine br (fun q => ?_) (fun q => ?_)
  · have q : k = 1 := by have q : (k == 1) = true := q; simpa using q
    exact Exists.intro () (And.intro (congrArg Value.string (by unfold spName; rw [if_pos q])) (And.intro trivial H))
  have q1 : k ≠ 1 := by have q : (k == 1) = false := q; simpa using q
  refine br (fun q => ?_) (fun q => ?_)
  · have q : k = 2 := by have q : (k == 2) = true := q; simpa using q
    exact Exists.intro () (And.intro (congrArg Value.string (by unfold spName; rw [if_neg q1, if_pos q])) (And.intro trivial H))
  · have q : k ≠ 2 := by have q : (k == 2) = false := q; simpa using q
    exact Exists.intro () (And.intro (congrArg Value.string (by unfold spName; rw [if_neg q1, if_neg q])) (And.intro trivial H))
def eqS (a b : ByteArray) : Bool := a.toList == b.toList
/-- Of a name; 0: it is none. -/
def lvKind (s : ByteArray) : Int := if eqS (lvName 1) s = true then 1 else if eqS (lvName 2) s = true then 2 else 0
theorem levelKind (s : ByteArray) : CB 81 [.string s] (.int .u8 (lvKind s)) := by
  intro w M I H
  refine Exe.of_ev tok Tryz.call81 Tryz.func81 rfl rfl rfl ?_
  refine loop_rule tok (σ := Nat) 8188 (fun k => [(3, .int .u8 (k : Int))]) (fun k w' => 1 ≤ k ∧ k ≤ 3 ∧ (∀ j : Nat, 1 ≤ j → j < k → eqS (lvName j) s = false) ∧ Hp ⟨w, M, I⟩ [] [] w') (fun k => 3 - k) 1 rfl rfl ⟨rfl, trivial⟩ ⟨by decide, by decide, (fun j a b => by omega), H⟩ ?_
  intro k j w1 hW
  have h1 := hW.1
  have h2 := hW.2.1
  have h3 := hW.2.2.1
  have H1 := hW.2.2.2
  refine brd (fun hle => ?_) (fun hgt => ?_)
  · have ew : IntKind.u8.wrap ((k : Int) + 1) = ((k + 1 : Nat) : Int) := wrap_id ⟨by show (0 : Int) ≤ _; omega, by show _ ≤ (255 : Int); omega⟩
    refine call_rule H1 (fun M I _ h => levelName (k : Int) _ M I h) fun _ w2 _ H2 => ?_
    refine br (fun q => ?_) (fun q => ?_)
    · have q : eqS (lvName (k : Int)) s = true := q
      refine Exists.intro () (And.intro (congrArg (Value.int .u8) ?_) (And.intro trivial (Hp.keep H2)))
      unfold lvKind
      by_cases e : k = 1
      · subst e
        have q : eqS (lvName 1) s = true := q
        rw [if_pos q]; rfl
      · have e2 : k = 2 := by omega
        subst e2
        have q1 := h3 1 (by decide) (by decide)
        have q : eqS (lvName 2) s = true := q
        rw [if_neg (by show ¬ eqS (lvName 1) s = true; have q1 : eqS (lvName 1) s = false := q1; rw [q1]; simp), if_pos q]; rfl
    · have q : eqS (lvName (k : Int)) s = false := q
      refine Exists.intro (k + 1) (And.intro ⟨congrArg (Value.int .u8) ew, trivial⟩ (And.intro (by show 3 - (k + 1) < 3 - k; omega) ⟨by omega, by omega, fun j a b => ?_, Hp.keep H2⟩))
      by_cases e : j = k
      · rw [e]; exact q
      · exact h3 j a (by omega)
  · have e : k = 3 := by omega
    subst e
    have q1 : eqS (lvName 1) s = false := h3 1 (by decide) (by decide)
    have q2 : eqS (lvName 2) s = false := h3 2 (by decide) (by decide)
    refine Exists.intro () (And.intro (congrArg (Value.int .u8) ?_) (And.intro trivial H1))
    unfold lvKind
    rw [if_neg (by rw [q1]; simp), if_neg (by rw [q2]; simp)]
/-- Of a name; 0: it is none. -/
def spBasis (s : ByteArray) : Int := if eqS (spName 1) s = true then 1 else if eqS (spName 2) s = true then 2 else 0
theorem spanBasis (s : ByteArray) : CB 82 [.string s] (.int .u8 (spBasis s)) := by
  intro w M I H
  refine Exe.of_ev tok Tryz.call82 Tryz.func82 rfl rfl rfl ?_
  refine loop_rule tok (σ := Nat) 8188 (fun k => [(3, .int .u8 (k : Int))]) (fun k w' => 1 ≤ k ∧ k ≤ 3 ∧ (∀ j : Nat, 1 ≤ j → j < k → eqS (spName j) s = false) ∧ Hp ⟨w, M, I⟩ [] [] w') (fun k => 3 - k) 1 rfl rfl ⟨rfl, trivial⟩ ⟨by decide, by decide, (fun j a b => by omega), H⟩ ?_
  intro k j w1 hW
  have h1 := hW.1
  have h2 := hW.2.1
  have h3 := hW.2.2.1
  have H1 := hW.2.2.2
  refine brd (fun hle => ?_) (fun hgt => ?_)
  · have ew : IntKind.u8.wrap ((k : Int) + 1) = ((k + 1 : Nat) : Int) := wrap_id ⟨by show (0 : Int) ≤ _; omega, by show _ ≤ (255 : Int); omega⟩
    refine call_rule H1 (fun M I _ h => spanName (k : Int) _ M I h) fun _ w2 _ H2 => ?_
    refine br (fun q => ?_) (fun q => ?_)
    · have q : eqS (spName (k : Int)) s = true := q
      refine Exists.intro () (And.intro (congrArg (Value.int .u8) ?_) (And.intro trivial (Hp.keep H2)))
      unfold spBasis
      by_cases e : k = 1
      · subst e
        have q : eqS (spName 1) s = true := q
        rw [if_pos q]; rfl
      · have e2 : k = 2 := by omega
        subst e2
        have q1 := h3 1 (by decide) (by decide)
        have q : eqS (spName 2) s = true := q
        rw [if_neg (by show ¬ eqS (spName 1) s = true; have q1 : eqS (spName 1) s = false := q1; rw [q1]; simp), if_pos q]; rfl
    · have q : eqS (spName (k : Int)) s = false := q
      refine Exists.intro (k + 1) (And.intro ⟨congrArg (Value.int .u8) ew, trivial⟩ (And.intro (by show 3 - (k + 1) < 3 - k; omega) ⟨by omega, by omega, fun j a b => ?_, Hp.keep H2⟩))
      by_cases e : j = k
      · rw [e]; exact q
      · exact h3 j a (by omega)
  · have e : k = 3 := by omega
    subst e
    have q1 : eqS (spName 1) s = false := h3 1 (by decide) (by decide)
    have q2 : eqS (spName 2) s = false := h3 2 (by decide) (by decide)
    refine Exists.intro () (And.intro (congrArg (Value.int .u8) ?_) (And.intro trivial H1))
    unfold spBasis
    rw [if_neg (by rw [q1]; simp), if_neg (by rw [q2]; simp)]
end Go.Proofs.YtjlfjjgjghdokaaGreatDoor
/- Decimal numerals of uint64: the walk. -/
set_option linter.unusedVariables false
namespace Go.Wk
section
variable {P : Program} {T : Tab} {K : Value → World → Prop} {w : World} {B : Base} {S S' : List Asn} {F : List Fact}
/-- a[:k] of an array in a block. -/
theorem sliceArr_h (hT : T.Ok P) {t e : TypeId} {it : TypeInfo} {de : TD} {len b k : Nat} {kd : IntKind} (ht : T t = some ⟨.array len e, it⟩) (he : T e = some de) (hk : k ≤ len) (kk : K (.slice (some ⟨b, 0, none⟩) k len) w) : SliceK P K w t (.pointer (some ⟨b, 0, none⟩)) none (some (.int kd k)) none := by
  have e1 : P.elem t = e := by unfold Program.elem; rw [(hT t _ ht).1]
  have e2 : P.arrayLen t = len := by unfold Program.arrayLen; rw [(hT t _ ht).1]
  refine SliceK.of ?_ kk
  have hu : P.underlying t = some (.array (P.arrayLen t) (P.elem t)) := by rw [e1, e2]; exact (hT t _ ht).1
  rw [run_sliceAt_array_h w t _ hu kd k (by omega) (by rw [e2]; omega), e1, run_szOf hT he]
  simp only [Result.andThen_ok, slicedAt, Int.toNat_natCast, Nat.zero_mul, Nat.sub_zero, e2]
  congr 2
  split
  · rfl
  · exact congrArg some (addr_zero _)
theorem push_fold : ∀ (l : List UInt8) (s : ByteArray), (l.map fun b => ((b.toNat : Nat) : Int)).foldl (fun r n => r.push (UInt8.ofNat n.toNat)) s = ⟨s.data ++ l.toArray⟩
  | [], s => by simp
  | x :: l, s => by
    simp only [List.map_cons, List.foldl_cons]
    rw [push_fold l]
    congr 1
    show (s.push (UInt8.ofNat ((x.toNat : Nat) : Int).toNat)).data ++ l.toArray = s.data ++ (x :: l).toArray
    rw [Int.toNat_natCast, UInt8.ofNat_toNat, ByteArray.data_push]
    apply Array.ext'
    simp
/-- Bytes of one's own asx a string. -/
theorem strB_rule (hT : T.Ok P) (H : Hp B S F w) {src dst e t0 : TypeId} {i1 i2 i3 : TypeInfo} {b n c : Nat} {cs : List Value} (l : List UInt8) [hp : TakeB S b cs t0 S'] (hs : T src = some ⟨.slice e, i1⟩) (he : T e = some ⟨.int .u8, i2⟩) (hd : T dst = some ⟨.string, i3⟩)
    (hl : l.length = n) (hc : cs.take n = l.map fun b => Value.int .u8 (b.toNat : Int)) (k : K (.string ⟨l.toArray⟩) w) : ConvK P K w src dst (.slice (some ⟨b, 0, none⟩) n c) := by
  obtain ⟨fa, ha⟩ := H.own (A := blk b cs t0) (hp := ⟨hp.perm⟩)
  have hcells := blk_cells ha
  refine ConvK.of ?_ k
  rw [run_convert_bytes_string w src dst e _ _ _ (hT src _ hs).1 (hT e _ he).1 (hT dst _ hd).1]
  have hload := run_loadCells_list (P := P) w ⟨b, 0, none⟩ (l.map fun b => Value.int .u8 (b.toNat : Int)) fun j v hj => by
    rw [add_plain]
    refine hcells j v ?_
    rw [← hc, List.getElem?_take] at hj
    split at hj
    · exact hj
    · cases hj
  rw [List.length_map, hl] at hload
  have e1 : (l.map fun b => Value.int .u8 (b.toNat : Int)) = (l.map fun b => ((b.toNat : Nat) : Int)).map (Value.int .u8) := by simp [List.map_map, Function.comp_def]
  rw [e1] at hload
  rw [run_bytesToString w _ _ _ _ hload, push_fold, show ByteArray.empty.data = #[] from rfl, Array.empty_append]
end
end Go.Wk
namespace Go.Proofs.YtjlfjjgjghdokaaGreatDoor
open Go Go.Proofs Go.Wk Go.RowKit
theorem smallS (i : Nat) (h : i < 100) : CB 257 [.int .i64 i] (.string (strOf (Lib.decDigits i))) := fun w M I H =>
  ctrLib H Tryz.call257 ((Tryz.internal_strconv_small i h w).mono fun e w' h => ⟨(), h.1, trivial, by rw [h.2]; exact Below.refl _ _⟩)
theorem numDigits (u : Nat) (h1 : 1 ≤ u) (h2 : u < 18446744073709551616) (w : World) (M I : BS) (H : Hp ⟨w, M, I⟩ [] [LibF] w) :
    Ctr Tryz.prog 258 [.int .u64 u] w M I (fun _ : Unit => .int .i64 (Lib.nDigits u)) (fun _ => True) (fun _ => []) (fun _ => []) := by
  obtain ⟨m, pe, pr, I2, hl⟩ := hpLib H
  exact ctrLib H Tryz.call258 ((Tryz.internal_strconv_numDigits u h1 h2 w hl.tab.2).mono fun e w' h => ⟨(), h.1, trivial, by rw [h.2]; exact Below.refl _ _⟩)
@[reducible] def encB (b : UInt8) : Value := .int .u8 (b.toNat : Int)
/-- formatBase10 into a fresh array: the numeral's digits in front. -/
theorem fmt10 (b u : Nat) (tt : TypeId) (hu : u < 18446744073709551616) (hd : Lib.nDigits u ≤ 24) (w : World) (M I : BS) (H : Hp ⟨w, M, I⟩ [blk b (List.replicate 24 (.int .u8 0)) tt] [] w) :
    Ctr Tryz.prog 259 [.slice (some ⟨b, 0, none⟩) (Lib.nDigits u) 24, .int .u64 u] w M I (fun _ : Unit => .tuple #[]) (fun _ => True) (fun _ => [blk b ((Lib.decDigits u).map encB ++ List.replicate (24 - Lib.nDigits u) (.int .u8 0)) tt]) (fun _ => []) := by
  obtain ⟨fa, ha⟩ := Hp.own (A := blk b (List.replicate 24 (.int .u8 0)) tt) (hp := ⟨.refl _⟩) H
  have hz : (Array.replicate (Lib.nDigits u) (0 : UInt8)).size = Lib.nDigits u := by simp
  have hH : Sort.Holds (fun (b : UInt8) => Value.int .u8 (b.toNat : Int)) w b 0 (Array.replicate (Lib.nDigits u) (0 : UInt8)) := by
    intro j hj
    rw [hz] at hj
    have hc := blk_cells ha j (.int .u8 0) (by rw [List.getElem?_replicate, if_pos (by omega)])
    refine ⟨?_, ?_⟩
    · rw [hc, getElem!_pos _ j (by rw [hz]; exact hj)]; simp
    · simp [World.frozen?, ha.2]
  have h := Tryz.internal_strconv_formatBase10 b 0 24 u (Array.replicate (Lib.nDigits u) (0 : UInt8)) w hH (by rw [hz]; exact Lib.lt_pow_nDigits u) hu (by rw [hz]; omega)
  rw [hz] at h
  refine Ctr.of_calls Tryz.call259 (h.mono fun e w' hh => ?_)
  obtain ⟨h1, n, v', dk, h2, h3⟩ := hh
  refine ⟨(), h1, trivial, ?_⟩
  have hlen := Lib.decDigits_length u
  have hcells : Sort.putCells (fun (b : UInt8) => Value.int .u8 (b.toNat : Int)) 0 dk (List.replicate 24 (Value.int .u8 0)).toArray = ((Lib.decDigits u).map encB ++ List.replicate (24 - Lib.nDigits u) (Value.int .u8 0)).toArray := by
    apply Array.ext
    · simp [Sort.putCells, hlen]; omega
    · intro j h4 h5
      simp only [Sort.putCells, Array.size_mapIdx, List.size_toArray, List.length_replicate] at h4
      simp only [Sort.putCells, Array.getElem_mapIdx, List.getElem_toArray, List.getElem_replicate, Nat.zero_le, true_and, Nat.zero_add, Nat.sub_zero, h3.size]
      by_cases hj : j < Lib.nDigits u
      · rw [if_pos hj, List.getElem_append_left (by simp [hlen]; exact hj), List.getElem_map, Lib.row_is_numeral h3 j (by rw [hlen]; exact hj)]
      · rw [if_neg hj, List.getElem_append_right (by simp [hlen]; omega), List.getElem_replicate]
  refine Hp.step (A := blk b (List.replicate 24 (.int .u8 0)) tt) (hp := ⟨.refl _⟩) H (by rw [h2]; rfl) (by rw [h2]; rfl) (by rw [h2]; rfl) (by rw [h2]; simp [Sort.putRow, Sort.mapBlock, World.drewN]) fun fa ha => ⟨fun k _ hk => ?_, fa, ⟨ha.1, ?_⟩, fun b hb => .inl hb⟩
  · have hne : b ≠ k := fun e => hk ((ha.1 k).2 e.symm)
    rw [h2]
    show (w.heap.modify b _)[k]? = _
    rw [Array.getElem?_modify, if_neg hne]
  · rw [h2]
    show (w.heap.modify b _)[b]? = _
    rw [Array.getElem?_modify, if_pos rfl, ha.2]
    show some (Obj.cells (Sort.putCells _ 0 dk _) tt (0, 0)) = _
    rw [hcells]
/-- strconv.FormatUint(u, 10). -/
theorem formatUint (u : Nat) (hu : u < 18446744073709551616) (w : World) (M I : BS) (H : Hp ⟨w, M, I⟩ [] [LibF] w) :
    Ctr Tryz.prog 190 [.int .u64 u, .int .i64 10] w M I (fun _ : Unit => .string (strOf (Lib.decDigits u))) (fun _ => True) (fun _ => []) (fun _ => []) := by
  have hn20 := Lib.nDigits_le20 u hu
  have hlen := Lib.decDigits_length u
  refine Exe.of_ev tok Tryz.call190 Tryz.func190 rfl rfl rfl ?_
  have inner : ∀ M I, Hp ⟨w, M, I⟩ [] [LibF] w → Ctr Tryz.prog 234 [.int .u64 u, .int .i64 10] w M I (fun _ : Unit => .string (strOf (Lib.decDigits u))) (fun _ => True) (fun _ => []) (fun _ => []) := fun M I H => by
    refine Exe.of_ev tok Tryz.call234 Tryz.func234 rfl rfl rfl ?_
    refine brd (fun hlt => ?_) (fun hge => ?_)
    · have ew : IntKind.i64.wrap (u : Int) = (u : Int) := i64w (by omega) (by omega)
      refine call_rule H (fun M I _ h => ew.symm ▸ smallS u (by omega) _ M I h) fun _ w1 _ H1 => ?_
      exact Exists.intro () (And.intro rfl (And.intro trivial (Hp.keep H1)))
    refine alloc_as tok H (List.replicate 24 (.int .u8 0)) rfl rfl rfl fun b w1 H1 => ?_
    refine call_rule H1 (fun M I _ h => numDigits u (by omega) hu _ M I h) fun _ w2 _ H2 => ?_
    refine sliceArr_h tok rfl rfl (by omega) ?_
    refine call_rule H2 (fun M I _ h => fmt10 b u 387 hu (by omega) _ M I h) fun _ w3 _ H3 => ?_
    refine sliceArr_h tok rfl rfl (by omega) ?_
    refine strB_rule tok H3 (Lib.decDigits u) rfl rfl rfl hlen (by rw [List.take_append_of_le_length (by simp [hlen]), List.take_of_length_le (by simp [hlen])]) ?_
    exact Exists.intro () (And.intro rfl (And.intro trivial (Hp.keep H3)))
  refine call_rule H (fun M I _ h => inner M I h) fun _ w1 _ H1 => ?_
  exact Exists.intro () (And.intro rfl (And.intro trivial (Hp.keep H1)))
end Go.Proofs.YtjlfjjgjghdokaaGreatDoor
/- An amount in words: the walk. Printed by gen19.py. -/
set_option linter.unusedVariables false
namespace Go.Proofs.YtjlfjjgjghdokaaGreatDoor
open Go Go.Proofs Go.Wk Go.RowKit
/-- An amount in words. -/
def coinL (c : Int) : List UInt8 := (if c < 0 then [45] else []) ++ Lib.decDigits (c.natAbs / 100) ++ [46] ++ [UInt8.ofNat (48 + c.natAbs % 100 / 10), UInt8.ofNat (48 + c.natAbs % 100 % 10)]
theorem digB {x : Nat} (h : x < 10) : IntKind.u8.wrap (IntKind.u64.wrap (48 + (x : Int))) = (((UInt8.ofNat (48 + x)).toNat : Nat) : Int) := by
  rw [u64w]
  have e : (UInt8.ofNat (48 + x)).toNat = 48 + x := by simp [UInt8.toNat_ofNat]; omega
  rw [e]
  have : (48 + (x : Int)) % 18446744073709551616 = 48 + x := by omega
  rw [this]
  exact wrap_id ⟨by show (0 : Int) ≤ _; omega, by show _ ≤ (255 : Int); omega⟩
theorem tdivNat (x k : Nat) (h : x < 18446744073709551616) : IntKind.u64.wrap (((x : Nat) : Int).tdiv ((k : Nat) : Int)) = ((x / k : Nat) : Int) := u64n (Nat.lt_of_le_of_lt (Nat.div_le_self _ _) h)
theorem coinText1 (n : Nat) (hn : n < 18446744073709551616) : Lib.nDigits (n / 100) ≤ 20 := Lib.nDigits_le20 (n / 100) (by omega)
set_option maxRecDepth 20000 in
set_option maxHeartbeats 1000000 in
theorem coinText (c : Int) (hc : inK .i64 c) (w : World) (M I : BS) (H : Hp ⟨w, M, I⟩ [] [LibF] w) :
    Ctr Tryz.prog 137 [.int .i64 c] w M I (fun _ : Unit => .string (strOf (coinL c))) (fun _ => True) (fun _ => []) (fun _ => []) := by
  obtain ⟨hc0, hc1⟩ := hc
  simp only [kLo, kHi] at hc0 hc1
  have hnl : c.natAbs < 18446744073709551616 := by omega
  have hd := coinText1 c.natAbs hnl
  have hm : c.natAbs % 100 < 100 := Nat.mod_lt _ (by decide)
  have eq2 : IntKind.u64.wrap ((((c.natAbs % 100 : Nat) : Int)).tdiv 10) = ((c.natAbs % 100 / 10 : Nat) : Int) := tdivNat _ 10 (by omega)
  have er2 : (((c.natAbs % 100 : Nat) : Int)).tmod 10 = ((c.natAbs % 100 % 10 : Nat) : Int) := rfl
  have b1 := digB (x := c.natAbs % 100 / 10) (by omega)
  have b2 := digB (x := c.natAbs % 100 % 10) (by omega)
  have c46 : (⟨#[46]⟩ : ByteArray) = strOf [46] := rfl
  have c45 : (⟨#[45]⟩ : ByteArray) = strOf [45] := rfl
  have c0 : (⟨#[]⟩ : ByteArray) = strOf [] := rfl
  refine Exe.of_ev tok Tryz.call137 Tryz.func137 rfl rfl rfl ?_
  refine brd (fun hneg => ?_) (fun hpos => ?_)
  · have en : IntKind.u64.wrap (0 - IntKind.u64.wrap c) = (c.natAbs : Int) := by rw [u64w, u64w]; omega
    have er : (IntKind.u64.wrap (0 - IntKind.u64.wrap c)).tmod 100 = ((c.natAbs % 100 : Nat) : Int) := by rw [en]; rfl
    have eq : IntKind.u64.wrap ((IntKind.u64.wrap (0 - IntKind.u64.wrap c)).tdiv 100) = ((c.natAbs / 100 : Nat) : Int) := by rw [en]; exact tdivNat _ 100 hnl
    refine rem_as ((c.natAbs % 100 : Nat) : Int) (by decide) er ?_
    refine draw_rule (A := []) tok tdr H [1, 2, 3, 0, 4, 5, 6, 7, 8, 9, 10, 11, 12, 13, 14, 15, 16, 17] [0, 0, 2, 6, 15, 31, 0, 64, 192, 448, 0, 1024, 3072, 7168, 16320, 32704, 65535, 131071] rfl ?_
    refine pass_rule _ (fun w h => quo_as ((c.natAbs / 100 : Nat) : Int) (by decide) eq ⟨rfl, rfl⟩) ?_
    refine imp_rule (fun X wx h => call_rule h (fun M I _ h => formatUint (c.natAbs / 100) (by omega) _ M I h) fun _ w1 _ H1 => imp_done H1 ?_)
    refine pass_rule _ (fun w h => sadd_as (strOf ([45] ++ Lib.decDigits (c.natAbs / 100))) (by rw [c45, strOf_app]) (by rw [strOf_size]; simp [Lib.decDigits_length]; omega) ⟨rfl, rfl⟩) ?_
    refine pass_rule _ (fun w h => sadd_as (strOf ([45] ++ Lib.decDigits (c.natAbs / 100) ++ [46])) (by rw [c46, strOf_app]) (by rw [strOf_size]; simp [Lib.decDigits_length]; omega) ⟨rfl, rfl⟩) ?_
    refine pass_rule _ (fun w h => quo_as ((c.natAbs % 100 / 10 : Nat) : Int) (by decide) eq2 ⟨rfl, rfl⟩) ?_
    refine pass_rule _ (fun w h => rem_as ((c.natAbs % 100 % 10 : Nat) : Int) (by decide) er2 ⟨rfl, rfl⟩) ?_
    refine fresh_slice tok [.int .u8 (IntKind.u8.wrap (IntKind.u64.wrap (48 + ((c.natAbs % 100 / 10 : Nat) : Int)))), .int .u8 (IntKind.u8.wrap (IntKind.u64.wrap (48 + ((c.natAbs % 100 % 10 : Nat) : Int))))] rfl rfl rfl rfl rfl rfl rfl fun g => ?_
    refine pass_born 14 _ rfl (fun X w h => strB_rule tok h [UInt8.ofNat (48 + c.natAbs % 100 / 10), UInt8.ofNat (48 + c.natAbs % 100 % 10)] rfl rfl rfl rfl (by rw [b1, b2]; rfl) ⟨rfl, rfl⟩) ?_
    refine pass_rule _ (fun w h => sadd_as (strOf ([45] ++ Lib.decDigits (c.natAbs / 100) ++ [46] ++ [UInt8.ofNat (48 + c.natAbs % 100 / 10), UInt8.ofNat (48 + c.natAbs % 100 % 10)])) (strOf_app _ _).symm (by rw [strOf_size]; simp [Lib.decDigits_length]; omega) ⟨rfl, rfl⟩) ?_
    refine done_rule fun w9 H9 => ?_
    have e9 : strOf ([45] ++ Lib.decDigits (c.natAbs / 100) ++ [46] ++ [UInt8.ofNat (48 + c.natAbs % 100 / 10), UInt8.ofNat (48 + c.natAbs % 100 % 10)]) = strOf (coinL c) := by unfold coinL; rw [if_pos hneg]
    exact Exists.intro () (And.intro (congrArg Value.string e9) (And.intro trivial (Hp.keep H9)))
  · have en : IntKind.u64.wrap c = (c.natAbs : Int) := by rw [u64w]; omega
    have er : (IntKind.u64.wrap c).tmod 100 = ((c.natAbs % 100 : Nat) : Int) := by rw [en]; rfl
    have eq : IntKind.u64.wrap ((IntKind.u64.wrap c).tdiv 100) = ((c.natAbs / 100 : Nat) : Int) := by rw [en]; exact tdivNat _ 100 hnl
    refine rem_as ((c.natAbs % 100 : Nat) : Int) (by decide) er ?_
    refine draw_rule (A := []) tok tdr H [1, 2, 3, 0, 4, 5, 6, 7, 8, 9, 10, 11, 12, 13, 14, 15, 16, 17] [0, 0, 2, 6, 15, 31, 0, 64, 192, 448, 0, 1024, 3072, 7168, 16320, 32704, 65535, 131071] rfl ?_
    refine pass_rule _ (fun w h => quo_as ((c.natAbs / 100 : Nat) : Int) (by decide) eq ⟨rfl, rfl⟩) ?_
    refine imp_rule (fun X wx h => call_rule h (fun M I _ h => formatUint (c.natAbs / 100) (by omega) _ M I h) fun _ w1 _ H1 => imp_done H1 ?_)
    refine pass_rule _ (fun w h => sadd_as (strOf ([] ++ Lib.decDigits (c.natAbs / 100))) (by rw [c0, strOf_app]) (by rw [strOf_size]; simp [Lib.decDigits_length]; omega) ⟨rfl, rfl⟩) ?_
    refine pass_rule _ (fun w h => sadd_as (strOf ([] ++ Lib.decDigits (c.natAbs / 100) ++ [46])) (by rw [c46, strOf_app]) (by rw [strOf_size]; simp [Lib.decDigits_length]; omega) ⟨rfl, rfl⟩) ?_
    refine pass_rule _ (fun w h => quo_as ((c.natAbs % 100 / 10 : Nat) : Int) (by decide) eq2 ⟨rfl, rfl⟩) ?_
    refine pass_rule _ (fun w h => rem_as ((c.natAbs % 100 % 10 : Nat) : Int) (by decide) er2 ⟨rfl, rfl⟩) ?_
    refine fresh_slice tok [.int .u8 (IntKind.u8.wrap (IntKind.u64.wrap (48 + ((c.natAbs % 100 / 10 : Nat) : Int)))), .int .u8 (IntKind.u8.wrap (IntKind.u64.wrap (48 + ((c.natAbs % 100 % 10 : Nat) : Int))))] rfl rfl rfl rfl rfl rfl rfl fun g => ?_
    refine pass_born 14 _ rfl (fun X w h => strB_rule tok h [UInt8.ofNat (48 + c.natAbs % 100 / 10), UInt8.ofNat (48 + c.natAbs % 100 % 10)] rfl rfl rfl rfl (by rw [b1, b2]; rfl) ⟨rfl, rfl⟩) ?_
    refine pass_rule _ (fun w h => sadd_as (strOf ([] ++ Lib.decDigits (c.natAbs / 100) ++ [46] ++ [UInt8.ofNat (48 + c.natAbs % 100 / 10), UInt8.ofNat (48 + c.natAbs % 100 % 10)])) (strOf_app _ _).symm (by rw [strOf_size]; simp [Lib.decDigits_length]; omega) ⟨rfl, rfl⟩) ?_
    refine done_rule fun w9 H9 => ?_
    have e9 : strOf ([] ++ Lib.decDigits (c.natAbs / 100) ++ [46] ++ [UInt8.ofNat (48 + c.natAbs % 100 / 10), UInt8.ofNat (48 + c.natAbs % 100 % 10)]) = strOf (coinL c) := by unfold coinL; rw [if_neg hpos]
    exact Exists.intro () (And.intro (congrArg Value.string e9) (And.intro trivial (Hp.keep H9)))
end Go.Proofs.YtjlfjjgjghdokaaGreatDoor
/- Amounts, days and terms in words are read again: no program. -/
set_option linter.unusedVariables false
namespace Go.Proofs.YtjlfjjgjghdokaaGreatDoor
open Go Go.Proofs Go.Wk Go.Pl
/-! Amounts. -/
def cQ (c : Int) : List UInt8 := Lib.decDigits (c.natAbs / 100)
def cR (c : Int) : List UInt8 := [UInt8.ofNat (48 + c.natAbs % 100 / 10), UInt8.ofNat (48 + c.natAbs % 100 % 10)]
theorem coinL_pos {c : Int} (h : 0 ≤ c) : coinL c = cQ c ++ 46 :: cR c := by
  unfold coinL cQ cR
  rw [if_neg (by omega)]
  simp
theorem cQ_dig (c : Int) : ∀ x, x ∈ cQ c → dgB x = true := dec_dig _
theorem cR_dig (c : Int) : ∀ x, x ∈ cR c → dgB x = true := by
  intro x hx
  unfold cR at hx
  rcases List.mem_cons.1 hx with h | h
  · rw [h]; exact dgB_of (by omega)
  · rw [List.mem_singleton.1 h]; exact dgB_of (by omega)
theorem coin_cut {c : Int} (h : 0 ≤ c) : Lib.cut (coinL c) [46] = (cQ c, cR c, true) := by
  rw [coinL_pos h]
  exact cut_one (not_mem_of_dig (cQ_dig c) rfl)
theorem coin_int {c : Int} (h0 : 0 ≤ c) (h1 : c ≤ 9223372036854775807) : Lib.parseIntB 64 (cQ c ++ cR c) = .ok c := by
  have hp : Lib.parseUintM 18446744073709551615 0 (cQ c ++ cR c) = .ok c.natAbs := by
    unfold cQ cR
    rw [parseM_dec _ (by omega) _ _ 0 (by omega), Nat.zero_mul, Nat.zero_add, parseM_step _ _ _ (by omega) (by omega) (by omega), parseM_step _ _ _ (by omega) (by omega) (by omega), Lib.parseUintM]
    congr 1
    omega
  have h := parseIntB_pos (l := cQ c ++ cR c) (u := c.natAbs) (fun x hx => by
    rcases List.mem_append.1 hx with h | h
    · exact cQ_dig c x h
    · exact cR_dig c x h) (by unfold cR; simp) hp (by omega)
  rw [h]
  congr 1
  omega
theorem trim_cQ (c : Int) : Lib.trimPrefix (cQ c) [45] = cQ c := by
  unfold Lib.trimPrefix Lib.hasPrefix
  cases h : cQ c with
  | nil => rfl
  | cons x r =>
    have hx := cQ_dig c x (by rw [h]; exact List.mem_cons_self)
    have hne : (45 : UInt8) ≠ x := fun e => by rw [← e] at hx; cases hx
    rw [if_neg (by simp [List.isPrefixOf, hne])]
theorem cQ_ne (c : Int) : cQ c ≠ [] := dec_ne _
theorem cQ_head (c : Int) : ∀ x r, cQ c = x :: r → r ≠ [] → x ≠ 48 := dec_head _
theorem coin_sp {c : Int} (h : 0 ≤ c) : (32 : UInt8) ∉ coinL c := by
  rw [coinL_pos h]
  intro hm
  rcases List.mem_append.1 hm with h1 | h1
  · exact not_mem_of_dig (cQ_dig c) rfl h1
  · rcases List.mem_cons.1 h1 with h2 | h2
    · cases h2
    · exact not_mem_of_dig (cR_dig c) rfl h2
theorem coin_inj {a b : Int} (ha : 0 ≤ a) (ha2 : a ≤ 9223372036854775807) (hb : 0 ≤ b) (hb2 : b ≤ 9223372036854775807) (h : coinL a = coinL b) : a = b := by
  have h1 := coin_cut ha
  rw [h, coin_cut hb] at h1
  have e1 : cQ b = cQ a := congrArg Prod.fst h1
  have e2 : cR b = cR a := congrArg (fun x => x.2.1) h1
  have h2 := coin_int ha ha2
  rw [← e1, ← e2, coin_int hb hb2] at h2
  injection h2 with h2
  exact h2.symm
theorem coin_len (c : Int) (h : inK .i64 c) : (coinL c).length ≤ 24 := by
  unfold coinL
  have h1 := h.1
  have h2 := h.2
  simp only [kLo, kHi] at h1 h2
  have hd := Lib.nDigits_le20 (c.natAbs / 100) (by omega)
  simp only [List.length_append, Lib.decDigits_length, List.length_cons, List.length_nil]
  split <;> simp <;> omega
/-! Numbers and days. -/
theorem itoa_nat {n : Int} (h : 0 ≤ n) : Lib.itoa n = Lib.decDigits n.toNat := by unfold Lib.itoa; rw [if_neg (by omega)]
theorem nd_le : ∀ (k u : Nat), u < 10 ^ (k + 1) → Lib.nDigits u ≤ k + 1
  | 0, u, h => by rw [Lib.nDigits_small (by simpa using h)]; exact Nat.le_refl _
  | k + 1, u, h => by
    by_cases hu : u < 10
    · rw [Lib.nDigits_small hu]; omega
    · rw [Lib.nDigits_big hu]
      have := nd_le k (u / 10) (by rw [Nat.pow_succ] at h; omega)
      omega
theorem padL_nat {n : Int} (h : 0 ≤ n) (k : Nat) : padL n (k : Int) = List.replicate (k - Lib.nDigits n.toNat) 48 ++ Lib.decDigits n.toNat := by
  unfold padL
  rw [itoa_nat h, Lib.decDigits_length, Int.toNat_natCast]
theorem padL_length {n : Int} (h : 0 ≤ n) (k : Nat) (hk : n < ((10 ^ (k + 1) : Nat) : Int)) : (padL n ((k + 1 : Nat) : Int)).length = k + 1 := by
  rw [padL_nat h, List.length_append, List.length_replicate, Lib.decDigits_length]
  have := nd_le k n.toNat (by omega)
  omega
theorem padL_atoi {n : Int} (h : 0 ≤ n) (h1 : n < 9223372036854775808) (k : Nat) : Lib.atoiAll (padL n (k : Int)) = .ok n := by
  rw [padL_nat h, atoi_pad _ _ (by omega)]
  congr 1
  omega
theorem padL_dig {n : Int} (h : 0 ≤ n) (k : Nat) : ∀ x, x ∈ padL n (k : Int) → dgB x = true := by
  intro x hx
  rw [padL_nat h] at hx
  rcases List.mem_append.1 hx with h1 | h1
  · rw [(List.mem_replicate.1 h1).2]; rfl
  · exact dec_dig _ x h1
structure DatP (y m d : Int) : Prop where
  ly : (padL y 4).length = 4
  lm : (padL m 2).length = 2
  ld : (padL d 2).length = 2
  ay : Lib.atoiAll (padL y 4) = .ok y
  am : Lib.atoiAll (padL m 2) = .ok m
  ad : Lib.atoiAll (padL d 2) = .ok d
theorem datP {y m d : Int} (h : Dat y m d) : DatP y m d := by
  have hl := len_pos (y := y) (m := m)
  have h1 := h.y1
  have h2 := h.y2
  have h3 := h.m1
  have h4 := h.m2
  have h5 := h.d1
  have h6 := h.d2
  exact ⟨padL_length (by omega) 3 (by omega), padL_length (by omega) 1 (by omega), padL_length (by omega) 1 (by omega), padL_atoi (by omega) (by omega) 4, padL_atoi (by omega) (by omega) 2, padL_atoi (by omega) (by omega) 2⟩
theorem dat_length {y m d : Int} (h : Dat y m d) : (datL y m d).length = 10 := by
  have p := datP h
  unfold datL
  simp only [List.length_append, p.ly, p.lm, p.ld, List.length_cons, List.length_nil]
theorem dat_y {y m d : Int} (h : Dat y m d) : ((datL y m d).drop 0).take 4 = padL y 4 := by
  have p := datP h
  unfold datL
  rw [List.drop_zero, List.append_assoc, List.append_assoc, List.append_assoc, List.take_left' p.ly]
theorem dat_m {y m d : Int} (h : Dat y m d) : ((datL y m d).drop 5).take 2 = padL m 2 := by
  have p := datP h
  unfold datL
  have e : (padL y 4 ++ [45]).length = 5 := by rw [List.length_append, p.ly]; rfl
  rw [List.append_assoc, List.append_assoc, List.drop_left' e, List.take_left' p.lm]
theorem dat_d {y m d : Int} (h : Dat y m d) : ((datL y m d).drop 8).take 2 = padL d 2 := by
  have p := datP h
  unfold datL
  have e : (padL y 4 ++ [45] ++ padL m 2 ++ [45]).length = 8 := by simp only [List.length_append, p.ly, p.lm]; rfl
  rw [List.drop_left' e, List.take_of_length_le (by rw [p.ld]; omega)]
theorem dat_inj {y m d y' m' d' : Int} (h : Dat y m d) (h' : Dat y' m' d') (e : datL y m d = datL y' m' d') : y = y' ∧ m = m' ∧ d = d' := by
  have p := datP h
  have p' := datP h'
  refine ⟨?_, ?_, ?_⟩
  · have a := p.ay
    rw [← dat_y h, e, dat_y h', p'.ay] at a
    injection a with a
    exact a.symm
  · have a := p.am
    rw [← dat_m h, e, dat_m h', p'.am] at a
    injection a with a
    exact a.symm
  · have a := p.ad
    rw [← dat_d h, e, dat_d h', p'.ad] at a
    injection a with a
    exact a.symm
theorem dat_sp {y m d : Int} (h : Dat y m d) : (32 : UInt8) ∉ datL y m d := by
  have hl := len_pos (y := y) (m := m)
  have h1 := h.y1
  have h3 := h.m1
  have h5 := h.d1
  have n1 := not_mem_of_dig (padL_dig (n := y) (by omega) 4) (x := 32) rfl
  have n2 := not_mem_of_dig (padL_dig (n := m) (by omega) 2) (x := 32) rfl
  have n3 := not_mem_of_dig (padL_dig (n := d) (by omega) 2) (x := 32) rfl
  unfold datL
  simp only [List.mem_append, List.mem_singleton, not_or]
  exact ⟨⟨⟨⟨n1, by decide⟩, n2⟩, by decide⟩, n3⟩
theorem num_sp {n : Int} (h : 0 ≤ n) : (32 : UInt8) ∉ Lib.itoa n := by
  rw [itoa_nat h]
  exact not_mem_of_dig (dec_dig _) rfl
/-- What a day's words are. -/
def DayT (n : Int) (s : ByteArray) : Prop := ∃ y m d, Dat y m d ∧ numD y m d = n ∧ s = strOf (datL y m d)
theorem strOf_inj {a b : List UInt8} (h : strOf a = strOf b) : a = b := by
  have := congrArg (fun s : ByteArray => s.data.toList) h
  simpa [strOf_data] using this
theorem DayT.inj {n n' : Int} {s : ByteArray} (h : DayT n s) (h' : DayT n' s) : n = n' := by
  obtain ⟨y, m, d, hd, hn, hs⟩ := h
  obtain ⟨y', m', d', hd', hn', hs'⟩ := h'
  obtain ⟨e1, e2, e3⟩ := dat_inj hd hd' (strOf_inj (hs.symm.trans hs'))
  rw [← hn, ← hn', e1, e2, e3]
theorem DayT.uniq {n : Int} {s s' : ByteArray} (h : DayT n s) (h' : DayT n s') : s = s' := by
  obtain ⟨y, m, d, hd, hn, hs⟩ := h
  obtain ⟨y', m', d', hd', hn', hs'⟩ := h'
  obtain ⟨e1, e2, e3⟩ := num_inj hd hd' (hn.trans hn'.symm)
  rw [hs, hs', e1, e2, e3]
/-! Terms. -/
def bsL (s : ByteArray) : List UInt8 := s.data.toList
def tmWords (t : Tm) (dl : List UInt8) : List (List UInt8) := [bsL (lvName t.kind), coinL t.prin, Lib.itoa t.parts, bsL (spName t.basis), Lib.itoa t.months, dl, coinL t.fee, Lib.itoa t.grace]
/-- What terms' words are. -/
def TmT (t : Tm) (s : ByteArray) : Prop := ∃ y m d, Dat y m d ∧ numD y m d = t.start ∧ s = strOf (Lib.join (tmWords t (datL y m d)) [32])
theorem TmT.uniq {t : Tm} {s s' : ByteArray} (h : TmT t s) (h' : TmT t s') : s = s' := by
  obtain ⟨y, m, d, hd, hn, hs⟩ := h
  obtain ⟨y', m', d', hd', hn', hs'⟩ := h'
  obtain ⟨e1, e2, e3⟩ := num_inj hd hd' (hn.trans hn'.symm)
  rw [hs, hs', e1, e2, e3]
theorem lv_sp (k : Int) (h : k = 1 ∨ k = 2) : (32 : UInt8) ∉ bsL (lvName k) := by
  rcases h with rfl | rfl <;> decide
theorem sp_sp (k : Int) (h : k = 1 ∨ k = 2) : (32 : UInt8) ∉ bsL (spName k) := by
  rcases h with rfl | rfl <;> decide
theorem words_sp {t : Tm} (ok : TmOk t) (h0 : 0 ≤ t.parts) {y m d : Int} (hd : Dat y m d) : ∀ x, x ∈ tmWords t (datL y m d) → (32 : UInt8) ∉ x := by
  intro x hx
  unfold tmWords at hx
  simp only [List.mem_cons, List.not_mem_nil, or_false] at hx
  rcases hx with h | h | h | h | h | h | h | h <;> rw [h]
  · exact lv_sp _ ok.kind
  · exact coin_sp (by have := ok.prin; omega)
  · exact num_sp h0
  · exact sp_sp _ ok.basis
  · exact num_sp (by have := ok.months; omega)
  · exact dat_sp hd
  · exact coin_sp (by have := ok.fee; omega)
  · exact num_sp (by have := ok.grace; omega)
theorem words_split {t : Tm} (ok : TmOk t) (h0 : 0 ≤ t.parts) {y m d : Int} (hd : Dat y m d) : Lib.splitK [32] 0 (Lib.count (Lib.join (tmWords t (datL y m d)) [32]) [32]) (Lib.join (tmWords t (datL y m d)) [32]) = tmWords t (datL y m d) := split_join _ _ (words_sp ok h0 hd)
theorem words_count {t : Tm} (ok : TmOk t) (h0 : 0 ≤ t.parts) {y m d : Int} (hd : Dat y m d) : Lib.count (Lib.join (tmWords t (datL y m d)) [32]) [32] = 7 := count_join _ _ (words_sp ok h0 hd)
theorem lv_inj {k k' : Int} (h : k = 1 ∨ k = 2) (h' : k' = 1 ∨ k' = 2) (e : bsL (lvName k) = bsL (lvName k')) : k = k' := by
  rcases h with rfl | rfl <;> rcases h' with rfl | rfl
  · rfl
  · exact absurd e (by decide)
  · exact absurd e (by decide)
  · rfl
theorem sp_inj {k k' : Int} (h : k = 1 ∨ k = 2) (h' : k' = 1 ∨ k' = 2) (e : bsL (spName k) = bsL (spName k')) : k = k' := by
  rcases h with rfl | rfl <;> rcases h' with rfl | rfl
  · rfl
  · exact absurd e (by decide)
  · exact absurd e (by decide)
  · rfl
theorem num_inj2 {a b : Int} (ha : 0 ≤ a) (ha2 : a < 9223372036854775808) (hb : 0 ≤ b) (hb2 : b < 9223372036854775808) (e : Lib.itoa a = Lib.itoa b) : a = b := by
  rw [itoa_nat ha, itoa_nat hb] at e
  have h1 := atoi_num a.toNat (by omega)
  rw [e, atoi_num b.toNat (by omega)] at h1
  injection h1 with h1
  omega
theorem TmT.inj {t t' : Tm} (ok : TmOk t) (h0 : 0 ≤ t.parts) (ok' : TmOk t') (h0' : 0 ≤ t'.parts) {s : ByteArray} (h : TmT t s) (h' : TmT t' s) : t = t' := by
  obtain ⟨y, m, d, hd, hn, hs⟩ := h
  obtain ⟨y', m', d', hd', hn', hs'⟩ := h'
  have e := strOf_inj (hs.symm.trans hs')
  have w := words_split ok h0 hd
  rw [e, words_split ok' h0' hd'] at w
  unfold tmWords at w
  simp only [List.cons.injEq, and_true] at w
  obtain ⟨w1, w2, w3, w4, w5, w6, w7, w8⟩ := w
  have b1 := ok.prin
  have b2 := ok'.prin
  have b3 := ok.months
  have b4 := ok'.months
  have b5 := ok.fee
  have b6 := ok'.fee
  have b7 := ok.grace
  have b8 := ok'.grace
  have b9 := ok.parts
  have b10 := ok'.parts
  obtain ⟨d1, d2, d3⟩ := dat_inj hd' hd w6
  have e1 := lv_inj ok'.kind ok.kind w1
  have e2 := coin_inj (by omega) (by omega) (by omega) (by omega) w2
  have e3 := num_inj2 h0' (by omega) h0 (by omega) w3
  have e4 := sp_inj ok'.basis ok.basis w4
  have e5 := num_inj2 (by omega) (by omega) (by omega) (by omega) w5
  have e7 := coin_inj (by omega) (by omega) (by omega) (by omega) w7
  have e8 := num_inj2 (by omega) (by omega) (by omega) (by omega) w8
  have e6 : t'.start = t.start := by rw [← hn, ← hn', d1, d2, d3]
  cases t; cases t'
  simp only at e1 e2 e3 e4 e5 e6 e7 e8
  subst e1 e2 e3 e4 e5 e6 e7 e8
  rfl
end Go.Proofs.YtjlfjjgjghdokaaGreatDoor
/- errors.Is at a number's error; an amount is read of words: the walks. -/
set_option linter.unusedVariables false
namespace Go.Proofs.YtjlfjjgjghdokaaGreatDoor
open Go Go.Proofs Go.Wk Go.RowKit Go.Extern Go.Pl
theorem typeOfS (v : Value) (w : World) : (ReflectliteType.typeOf #[.iface 391 v]).run Tryz.prog w = .ok (.iface 293 (.agg #[hdl 391])) w := by kernel_rfl
theorem mComp (h : Value) (w : World) : (Go.method (Tryz.prog.types.size + Made.depth) 293 (.agg #[h]) "Comparable").run Tryz.prog w = .ok (314, .agg #[h]) w := by kernel_rfl
theorem compS (w : World) : (ReflectliteType.method (fun t => do Rtype.noPackHeld "Comparable" t; pure (.bool (← typeInfo t).comparable)) #[.agg #[hdl 391]]).run Tryz.prog w = .ok (.bool true) w := by kernel_rfl
theorem mUnwrap (v : Value) (w : World) : (Go.method (Tryz.prog.types.size + Made.depth) 326 v "Unwrap").run Tryz.prog w = .ok (325, v) w := by kernel_rfl


theorem unwrapNE (N : Nat) (a b : ByteArray) (p : Option Addr) (w : World) (M I : BS) (H : Hp ⟨w, M, I⟩ [blk N (neC a b p) 370] [] w) :
    Ctr Tryz.prog 325 [.pointer (some ⟨N, 0, none⟩)] w M I (fun _ : Unit => .iface 391 (.pointer p)) (fun _ => True) (fun _ => [blk N (neC a b p) 370]) (fun _ => []) := by
  refine Exe.of_ev tok Tryz.call325 Tryz.func325 rfl rfl rfl ?_
  refine load_rule tok H (v := .iface 391 (.pointer p)) rfl ?_
  exact Exists.intro () (And.intro rfl (And.intro trivial (Hp.keep H)))
theorem noIsN (v : Value) (xT : TypeId) (w : World) : (Instr.typeAssert (.iface 326 v) xT 295 true).run Tryz.prog w = .ok (.tuple #[.nilIface, .bool false]) w := Go.run_typeAssert_lacksB Tryz.underlying295 (by kernel_rfl) (by kernel_rfl) v xT w
theorem hasUnN (v : Value) (xT : TypeId) (w : World) : (Instr.typeAssert (.iface 326 v) xT 298 true).run Tryz.prog w = .ok (.tuple #[.iface 326 v, .bool true]) w := Go.run_typeAssert_hasB Tryz.underlying298 (by kernel_rfl) v xT w
/-- A call of a method of an interface value by its contract. -/
theorem invoke_rule {P : Program} {K : Value → World → Prop} {w : World} {B : Base} {S : List Asn} {F : List Fact} (H : Hp B S F w) {g : Nat} {t : TypeId} {x r : Value} {m : String} {args : List Value} {α : Type} {V : α → Value} {φ : α → Prop} {A : α → List Asn} {G : α → List Fact} {A0 : List Asn} {G0 : List Fact} {S' : List Asn} {R : α → List Asn} {N : α → List Fact}
    (hm : (Go.method (P.types.size + Made.depth) t x m).run P w = .ok (g, r) w)
    (h : ∀ M I, (A0 = [] → ∀ b, ¬ M b) → Hp ⟨w, M, I⟩ A0 G0 w → Ctr P g (r :: args) w M I V φ A G) [hp : Pick S A0 S'] [hs : SubF F G0] [hr : ∀ a, AppL (A a) S' (R a)] [hn : ∀ a, AppL (G a) F (N a)]
    (k : ∀ a w', φ a → Hp B (R a) (N a) w' → K (V a) w') : InvokeK P K w (.iface t x) m args := by
  obtain ⟨M, I, h0, hmm, hk⟩ := (H.perm hp.perm).call (A := A0) (S := S') (G := G0) fun I ha => hs.all ha
  refine InvokeK_fn hm ((h M I hmm h0).mono ?_)
  rintro v w' ⟨a, rfl, hφ, hh⟩
  exact k a w' hφ (by rw [(hr a).eq, (hn a).eq]; exact hk _ _ _ hh)
theorem eqNS (u v : Option Addr) (o1 o2 : Operand) (w : World) : (binS .eql 37 o1 o2 (.iface 326 (.pointer u)) (.iface 391 (.pointer v))).run Tryz.prog w = .ok (.bool false) w := by kernel_rfl
theorem eqSS0 (o1 o2 : Operand) (w : World) : (binS .eql 37 o1 o2 (.iface 391 (.pointer none)) (.iface 391 (.pointer none))).run Tryz.prog w = .ok (.bool true) w := by kernel_rfl
theorem eqSS1 (a : Addr) (o1 o2 : Operand) (w : World) : (binS .eql 37 o1 o2 (.iface 391 (.pointer (some a))) (.iface 391 (.pointer (some a)))).run Tryz.prog w = .ok (.bool true) w := by
  have h2 : (binS .eql 37 o1 o2 (.iface 391 (.pointer (some a))) (.iface 391 (.pointer (some a)))).run Tryz.prog w = (binOp .eql 37 (.iface 391 (.pointer (some a))) (.iface 391 (.pointer (some a)))).run Tryz.prog w := rfl
  rw [h2]
  exact run_eql_iface_ptr_same w a (tok 37 _ rfl).1 (tok 391 _ rfl).1 (tok 391 _ rfl).2 rfl (tok 393 _ rfl).2
theorem eqSS (p : Option Addr) (o1 o2 : Operand) (w : World) : (binS .eql 37 o1 o2 (.iface 391 (.pointer p)) (.iface 391 (.pointer p))).run Tryz.prog w = .ok (.bool true) w := by
  cases p with
  | none => exact eqSS0 o1 o2 w
  | some a => exact eqSS1 a o1 o2 w
set_option maxHeartbeats 1000000 in
theorem errIs_ (N : Nat) (a b : ByteArray) (p : Option Addr) (w : World) (M I : BS) (H : Hp ⟨w, M, I⟩ [blk N (neC a b p) 370] [] w) :
    Ctr Tryz.prog 118 [.iface 326 (.pointer (some ⟨N, 0, none⟩)), .iface 391 (.pointer p), .bool true] w M I (fun _ : Unit => .bool true) (fun _ => True) (fun _ => []) (fun _ => []) := by
  refine Exe.of_ev tok Tryz.call118 Tryz.func118 rfl rfl rfl ?_
  refine loop_rule tok (σ := Bool) 18014398509479873 (fun s => [(0, if s = true then .iface 391 (.pointer p) else .iface 326 (.pointer (some ⟨N, 0, none⟩)))]) (fun s w' => Hp ⟨w, M, I⟩ [blk N (neC a b p) 370] [] w') (fun s => if s = true then 0 else 1) false rfl rfl ⟨rfl, trivial⟩ H ?_
  intro s
  cases s with
  | true =>
    intro j w2 H2
    refine BinK.of (eqSS p _ _ w2) ?_
    exact Exists.intro () (And.intro rfl (And.intro trivial (Hp.keep H2)))
  | false =>
    intro j w2 H2
    refine BinK.of (eqNS _ p _ _ w2) ?_
    refine AssertK.run (noIsN _ _ _) ?_
    refine AssertK.run (hasUnN _ _ _) ?_
    refine invoke_rule H2 (mUnwrap _ w2) (fun M I _ h => unwrapNE N a b p _ M I h) fun _ w3 _ H3 => ?_
    exact Exists.intro true (And.intro ⟨rfl, trivial⟩ (And.intro (by decide) (Hp.keep H3)))
theorem errIs (N : Nat) (a b : ByteArray) (p : Option Addr) (w : World) (M I : BS) (H : Hp ⟨w, M, I⟩ [blk N (neC a b p) 370] [] w) :
    Ctr Tryz.prog 64 [.iface 326 (.pointer (some ⟨N, 0, none⟩)), .iface 391 (.pointer p)] w M I (fun _ : Unit => .bool true) (fun _ => True) (fun _ => []) (fun _ => []) := by
  refine Exe.of_ev tok Tryz.call64 Tryz.func64 rfl rfl rfl ?_
  refine CallK_ext Tryz.func117 (by kernel_rfl) (by kernel_rfl) (by kernel_rfl) (by kernel_rfl) (typeOfS (.pointer p) w) ?_
  refine InvokeK_ext (mComp (hdl 391) w) Tryz.func314 (by kernel_rfl) (by kernel_rfl) (by kernel_rfl) (by kernel_rfl) (compS w) ?_
  refine call_rule H (fun M I _ h => errIs_ N a b p _ M I h) fun _ w1 _ H1 => ?_
  exact Exists.intro () (And.intro rfl (And.intro trivial (Hp.keep H1)))
theorem errIsNil (p : Option Addr) : CB 64 [.nilIface, .iface 391 (.pointer p)] (.bool false) := by
  intro w M I H
  refine Exe.of_ev tok Tryz.call64 Tryz.func64 rfl rfl rfl ?_
  refine BinK.of (v := .bool false) (w' := w) (by kernel_rfl) ?_
  exact Exists.intro () (And.intro rfl (And.intro trivial (Hp.keep H)))
end Go.Proofs.YtjlfjjgjghdokaaGreatDoor
/- Errors joined: one of them is, or none: the walk. -/
set_option linter.unusedVariables false
namespace Go.Wk
section
variable {P : Program} {T : Tab} {K : Value → World → Prop} {w : World} {B : Base} {S S' : List Asn} {F : List Fact}
/-- A literal's block asx a row of which nothing is used. -/
theorem Hp.toRow0 (H : Hp B S F w) {g : Nat} {cs : List Value} {e : TypeId} [h1 : TakeB S g cs e S'] (sz n : Nat) (hl : cs.length = n * sz) (hm : n ≤ 9223372036854775807) : Hp B (row e sz (.slice (some ⟨g, 0, none⟩) 0 n) 0 [] :: S') F w := by
  have hp' : Take S (blk g cs e) S' := ⟨h1.perm⟩
  refine H.step (A := blk g cs e) rfl rfl rfl (Nat.le_refl _) fun fa ha => ⟨fun _ _ _ => rfl, fa, ⟨⟨by simp, .inr ⟨g, n, cs.toArray, rfl, Nat.zero_le _, ha.2, Nat.zero_le _, hm, by simpa using hl, by simp⟩⟩, fun b => ?_⟩, fun b hb => .inl hb⟩
  rw [ha.1 b]; simp [Value.ownBlock, eq_comm]
/-- make of a slice of no length. -/
theorem make0_rule (hT : T.Ok P) (H : Hp B S F w) {t e : TypeId} {it : TypeInfo} {de : TD} {z : Value} {sz : Nat} {kl kc : IntKind} (c : Nat) (ht : T t = some ⟨.slice e, it⟩) (he : T e = some de) (hz : de.info.zero = some z) (hsz : Nat.beq de.info.size sz = true)
    (hb : de.info.bytes * c ≤ 281474976710656) (hc : c ≤ 9223372036854775807) (k : ∀ g w', Hp B (row e sz (.slice (some ⟨g, 0, none⟩) 0 c) 0 [] :: S) F w' → K (.slice (some ⟨g, 0, none⟩) 0 c) w') : MakeSliceK P K w t (.int kl 0) (.int kc (c : Int)) := by
  have hs := Nat.eq_of_beq_eq_true hsz
  have hbi : (de.info.bytes : Int) * (c : Int) ≤ 281474976710656 := by rw [← Int.natCast_mul]; omega
  refine MakeSliceK.of (run_make (P := P) w t e de.info z (hT t _ ht).1 (hT e _ he).2 hz kl kc 0 (c : Int) (Int.le_refl _) (by omega) hbi (by omega)) ?_
  rw [Int.toNat_natCast, Int.toNat_zero]
  have H1 := H.alloc (.cells (madeCells z.cells (c * de.info.size)) e)
  have H2 : Hp B (blk w.heap.size (madeCells z.cells (c * de.info.size)).toList e :: S) F (w.alloc (.cells (madeCells z.cells (c * de.info.size)) e)) := H1
  exact k _ _ (Hp.toRow0 H2 sz c (by rw [Array.length_toList, size_madeCells, hs]) hc)
end
end Go.Wk
namespace Go.Proofs.YtjlfjjgjghdokaaGreatDoor
open Go Go.Proofs Go.Wk
/-- An error, or none. -/
abbrev Er := Option (TypeId × Value)
def erV : Er → Value
  | none => .nilIface
  | some p => .iface p.1 p.2
theorem erV_or (x : Er) : (erV x = .nilIface ∧ x.isSome = false) ∨ ((∃ p : TypeId × Value, erV x = .iface p.1 p.2) ∧ x.isSome = true) := by
  cases x with
  | none => exact .inl ⟨rfl, rfl⟩
  | some p => exact .inr ⟨⟨p, rfl⟩, rfl⟩
@[reducible] def errR : Rp Er := ⟨1, Unit, fun x _ => [erV x], fun _ _ => True, fun _ _ => [], fun _ _ => rfl⟩
def cntE : List Er → Nat
  | [] => 0
  | x :: r => (if x.isSome = true then 1 else 0) + cntE r
theorem cntE_snoc : ∀ (l : List Er) (x : Er), cntE (l ++ [x]) = cntE l + (if x.isSome = true then 1 else 0)
  | [], x => by simp [cntE]
  | y :: l, x => by
    rw [List.cons_append, cntE, cntE, cntE_snoc l x, Nat.add_assoc]
theorem cntE_le : ∀ (l : List Er), cntE l ≤ l.length
  | [] => Nat.le_refl _
  | y :: l => by
    have := cntE_le l
    rw [cntE, List.length_cons]
    split <;> omega
theorem cntE_zero : ∀ (l : List Er), cntE l = 0 ↔ ∀ x, x ∈ l → x = none
  | [] => by simp [cntE]
  | y :: l => by
    rw [cntE]
    cases y with
    | none => simp [cntE_zero l]
    | some p => simp
theorem take_snoc {α : Type} (l : List α) (i : Nat) (x : α) (h : l[i]? = some x) : l.take (i + 1) = l.take i ++ [x] := by
  rw [List.take_add_one, h]; rfl
set_option maxHeartbeats 1000000 in
theorem joinAny (A : Option Addr) (n c : Nat) (xs : List Er) (hxn : xs.length ≤ 100) (w : World) (M I : BS) (H : Hp ⟨w, M, I⟩ [] [Sl errR (.slice A n c) xs] w) :
    Ctr Tryz.prog 83 [.slice A n c] w M I (fun a : Option Nat => erV (a.map fun b => (261, .pointer (some ⟨b, 0, none⟩)))) (fun a => a = none ↔ cntE xs = 0) (fun _ => []) (fun _ => []) := by
  obtain ⟨hnl, hc, hc2⟩ := H.sll (A := A) (n := n) (c := c)
  refine Exe.of_ev tok Tryz.call83 Tryz.func83 rfl rfl rfl ?_
  refine loop_rule tok (σ := Nat) 1046568 (fun i => [(3, .int .i64 ((cntE (xs.take i) : Nat) : Int)), (11, .int .i64 (i : Int))]) (fun i w' => i ≤ n ∧ Hp ⟨w, M, I⟩ [] [Sl errR (.slice A n c) xs] w') (fun i => n - i) 0 rfl rfl ⟨rfl, rfl, trivial⟩ ⟨Nat.zero_le _, H⟩ ?_
  intro i j w1 hW
  have hi := hW.1
  have H1 := hW.2
  refine brd (fun hlt => ?_) (fun hge => ?_)
  · have ew : IntKind.i64.wrap ((i : Int) + 1) = ((i + 1 : Nat) : Int) := w64 (by omega) (by omega)
    refine idx_rule tok H1 rfl rfl rfl (by omega) hlt fun eb eo x hx H2 => ?_
    have hx' : xs[i]? = some x := by simpa using hx
    have hcl := cntE_le (xs.take i)
    rw [List.length_take] at hcl
    have ec : cntE (xs.take (i + 1)) = cntE (xs.take i) + (if x.isSome = true then 1 else 0) := by rw [take_snoc xs i x hx', cntE_snoc]
    refine Or.elim (erV_or x) (fun hq => ?_) (fun hq => ?_)
    · have q := hq.2
      rw [if_neg (by rw [q]; simp), Nat.add_zero] at ec
      refine ld1_rule tok H2 (v := fun _ => .nilIface) rfl rfl (fun _ => congrArg (fun z => [z]) hq.1) fun _ _ H3 => ?_
      exact Exists.intro (i + 1) (And.intro ⟨congrArg (fun k : Nat => Value.int .i64 (k : Int)) ec.symm, congrArg (Value.int .i64) ew, trivial⟩ (And.intro (by show n - (i + 1) < n - i; omega) ⟨by omega, Hp.keep H3⟩))
    · have q := hq.2
      rw [if_pos q] at ec
      have e3 : IntKind.i64.wrap (((cntE (xs.take i) : Nat) : Int) + 1) = ((cntE (xs.take (i + 1)) : Nat) : Int) := by rw [ec]; exact w64 (by omega) (by omega)
      refine Exists.elim hq.1 fun p hp => ?_
      refine ld1_rule tok H2 (v := fun _ => .iface p.1 p.2) rfl rfl (fun _ => congrArg (fun z => [z]) hp) fun _ _ H3 => ?_
      exact Exists.intro (i + 1) (And.intro ⟨congrArg (Value.int .i64) e3, congrArg (Value.int .i64) ew, trivial⟩ (And.intro (by show n - (i + 1) < n - i; omega) ⟨by omega, Hp.keep H3⟩))
  have ei : i = xs.length := by omega
  have et : xs.take i = xs := by rw [ei, List.take_length]
  have hcl := cntE_le (xs.take i)
  have hcl3 : (xs.take i).length ≤ 100 := by rw [List.length_take]; omega
  refine brd (fun hz => ?_) (fun hnz => ?_)
  · exact Exists.intro none (And.intro rfl (And.intro ⟨fun _ => by rw [et] at hz; omega, fun _ => rfl⟩ (Hp.keep H1)))
  refine make0_rule tok H1 (sz := 1) (cntE (xs.take i)) rfl rfl rfl rfl (by show 16 * cntE (xs.take i) ≤ _; omega) (by omega) fun g w2 H2 => ?_
  refine box_as H2 [.slice (some ⟨g, 0, none⟩) 0 (cntE (xs.take i))] rfl fun b w3 H3 => ?_
  refine loop_rule tok (σ := Nat × Nat × Option Addr × Nat × List Value) 35184103653632 (fun s => [(28, .int .i64 (s.1 : Int))]) (fun s w' => s.1 ≤ n ∧ s.2.1 ≤ s.1 ∧ Hp ⟨w, M, I⟩ [blk b [.slice s.2.2.1 s.2.1 s.2.2.2.1] 263, row 37 1 (.slice s.2.2.1 s.2.1 s.2.2.2.1) s.2.1 s.2.2.2.2] [Sl errR (.slice A n c) xs] w') (fun s => n - s.1) (0, 0, some ⟨g, 0, none⟩, cntE (xs.take i), []) rfl rfl ⟨rfl, trivial⟩ ⟨Nat.zero_le _, Nat.le_refl _, Hp.keep H3⟩ ?_
  intro s j2 w4 hW
  have hs1 := hW.1
  have hs2 := hW.2.1
  have H4 := hW.2.2
  refine brd (fun hlt => ?_) (fun hge => ?_)
  · have ew : IntKind.i64.wrap ((s.1 : Int) + 1) = ((s.1 + 1 : Nat) : Int) := w64 (by omega) (by omega)
    refine idx_rule tok H4 rfl rfl rfl (by omega) hlt fun eb eo x hx H5 => ?_
    refine Or.elim (erV_or x) (fun hq => ?_) (fun hq => ?_)
    · refine ld1_rule tok H5 (v := fun _ => .nilIface) rfl rfl (fun _ => congrArg (fun z => [z]) hq.1) fun _ _ H6 => ?_
      exact Exists.intro (s.1 + 1, s.2) (And.intro ⟨congrArg (Value.int .i64) ew, trivial⟩ (And.intro (by show n - (s.1 + 1) < n - s.1; omega) ⟨by show s.1 + 1 ≤ n; omega, by show s.2.1 ≤ s.1 + 1; omega, Hp.keep H6⟩))
    · refine Exists.elim hq.1 fun p hp => ?_
      refine ld1_rule tok H5 (v := fun _ => .iface p.1 p.2) rfl rfl (fun _ => congrArg (fun z => [z]) hp) fun _ _ H6 => ?_
      refine load_rule tok H6 (v := .slice s.2.2.1 s.2.1 s.2.2.2.1) rfl ?_
      refine slice_as tok H6 [.iface p.1 p.2] rfl rfl rfl rfl rfl rfl fun g2 w5 H7 => ?_
      refine append_rule (v := .slice s.2.2.1 s.2.1 s.2.2.2.1) (b := g2) (m := 1) (c := 1) tok H7 rfl rfl rfl rfl rfl rfl rfl rfl (by show (s.2.1 + 1) * 16 ≤ _; omega) (by omega) fun A2 c2 w6 H8 => ?_
      refine store_as tok H8 [.slice A2 (s.2.1 + 1) c2] rfl rfl rfl rfl rfl fun w7 H9 => ?_
      exact Exists.intro (s.1 + 1, s.2.1 + 1, A2, c2, s.2.2.2.2 ++ [.iface p.1 p.2]) (And.intro ⟨congrArg (Value.int .i64) ew, trivial⟩ (And.intro (by show n - (s.1 + 1) < n - s.1; omega) ⟨by show s.1 + 1 ≤ n; omega, by show s.2.1 + 1 ≤ s.1 + 1; omega, Hp.keep H9⟩))
  · exact Exists.intro (some b) (And.intro rfl (And.intro ⟨fun h => (by cases h), fun h => absurd (by rw [et, h]; rfl) hnz⟩ (Hp.keep H4)))
end Go.Proofs.YtjlfjjgjghdokaaGreatDoor
/- An amount is read of words: the walk. -/
set_option linter.unusedVariables false
namespace Go.Wk
section
variable {P : Program} {T : Tab} {K : Value → World → Prop} {w : World} {B : Base} {S S' : List Asn} {F : List Fact}
/-- A string's bytes asx integers. -/
def bytesI (s : ByteArray) : List Int := s.data.toList.map fun b => ((b.toNat : Nat) : Int)
theorem bytesI_len (s : ByteArray) : (bytesI s).length = s.size := by unfold bytesI; rw [List.length_map, Array.length_toList]; rfl
/-- The bytes of a string in a row of their own, which nobody writes. -/
theorem convB_rule (hT : T.Ok P) (H : Hp B S F w) {src dst e : TypeId} {i1 i2 i3 : TypeInfo} {s : ByteArray} (hs : T src = some ⟨.string, i1⟩) (hd : T dst = some ⟨.slice e, i2⟩) (he : T e = some ⟨.int .u8, i3⟩) (hz : s.size ≤ 9223372036854775807)
    (k : ∀ g c w', Hp B S (Sl (intR .u8) (.slice (some ⟨g, 0, none⟩) s.size c) (bytesI s) :: F) w' → K (.slice (some ⟨g, 0, none⟩) s.size c) w') : ConvK P K w src dst (.string s) := by
  refine ConvK.of (Lib.run_convert_string_bytes w src dst e s (hT src _ hs).1 (hT dst _ hd).1 (hT e _ he).1) (k _ _ _ ?_)
  have hb : RowKit.Below w.heap.size w (Lib.bytesWorld w e s) := by
    refine ⟨rfl, rfl, rfl, ?_, fun k hk => Lib.bytesWorld_at_old w e s k hk⟩
    rw [Lib.bytesWorld_size]; omega
  obtain ⟨h1, h2, h3, h4, h5, J, fp, hsp, ha, r1, r2, r3, r4, r5⟩ := H
  have hnew : ∀ b, fp b → ¬ (J b ∨ b = w.heap.size) := fun b hfb h => by
    rcases h with h | h
    · exact r5 b hfb h
    · have := hsp.lt b hfb; omega
  have hk : ∀ b, J b → (Lib.bytesWorld w e s).heap[b]? = w.heap[b]? := fun b hj => hb.block b (r3 b hj)
  refine ⟨hb.os.trans h1, hb.tape.trans h2, ⟨hb.output.trans h3.1, fun q => False.elim q⟩, Nat.le_trans h4 hb.size, fun b hlb hM => (hb.block b (Nat.lt_of_lt_of_le hlb h4)).trans (h5 b hlb hM), (fun b => J b ∨ b = w.heap.size), fp, hsp.keep (fun b hfb => hb.block b (hsp.lt b hfb)) hnew, ?_, ?_, fun b hb2 => .inl (r2 b hb2), ?_, r4, hnew⟩
  · intro f hf
    rcases List.mem_cons.1 hf with rfl | hf
    · refine ⟨some ⟨w.heap.size, 0, none⟩, _, by rw [bytesI_len], by rw [bytesI_len]; exact grownCap_ge w s.size 0 e, grownCap_le_maxLen w s.size 0 e hz, (fun h => by cases h), fun i x hx => ⟨w.heap.size, 0, rfl, .inr rfl, (), ?_, ?_, fun f hf => by cases hf⟩⟩
      · unfold bytesI at hx
        rw [List.getElem?_map] at hx
        obtain ⟨b, _, rfl⟩ := Option.map_eq_some_iff.1 hx
        exact ⟨by show (0 : Int) ≤ _; omega, by show ((b.toNat : Nat) : Int) ≤ 255; have := b.toNat_lt; omega⟩
      · intro j v hj
        rcases j with _ | j
        · have hi : i < s.size := by
            have := (List.getElem?_eq_some_iff.1 hx).1
            rwa [bytesI_len] at this
          have hc := Lib.bytesWorld_cell w e s i hi
          have hv : v = .int .u8 x := by simpa using hj.symm
          have hxe : x = ((s.data.toList.getD i 0).toNat : Int) := by
            unfold bytesI at hx
            rw [List.getElem?_map] at hx
            obtain ⟨b, hb3, rfl⟩ := Option.map_eq_some_iff.1 hx
            rw [List.getD, hb3]; rfl
          rw [hv, hxe, ← hc]
          congr 2
          show 0 + i * 1 + 0 = i
          omega
        · simp at hj
    · exact f.mono (ha f hf) (fun b hj => .inl hj) hk
  · intro b hj
    rcases hj with hj | hj
    · exact r1 b hj
    · exact .inr (by omega)
  · intro b hj
    have := Lib.bytesWorld_size w e s
    rcases hj with hj | hj
    · have := r3 b hj; omega
    · omega
/-- A string's byte. -/
theorem strI_rule (hT : T.Ok P) {t : TypeId} {it : TypeInfo} {l : List UInt8} {b : UInt8} {r : List UInt8} {kd : IntKind} (ht : T t = some ⟨.string, it⟩) (hl : l = b :: r) (k : K (.int .u8 ((b.toNat : Nat) : Int)) w) : IndexK P K w t (.string ⟨l.toArray⟩) (.int kd 0) := by
  subst hl
  refine IndexK.of (v := .int .u8 ((b.toNat : Nat) : Int)) (w' := w) ?_ k
  have hb : (⟨(b :: r).toArray⟩ : ByteArray)[0]? = some b := by rfl
  simp [Instr.index, asIntOf, run_und hT ht, hb]
end
end Go.Wk
namespace Go.Proofs.YtjlfjjgjghdokaaGreatDoor
open Go Go.Proofs Go.Wk Go.Pl
theorem parseI64_in {l : List UInt8} {v : Int} (h : Lib.parseIntB 64 l = .ok v) : inK .i64 v := by
  cases l with
  | nil => cases h
  | cons c r =>
    unfold Lib.parseIntB at h
    simp only at h
    split at h
    · cases h
    · cases h
    · split at h
      · cases h
      · split at h
        · cases h
        · injection h with h
          rw [← h]
          split
          · exact ⟨by show (-9223372036854775808 : Int) ≤ _; omega, by show _ ≤ (9223372036854775807 : Int); omega⟩
          · exact ⟨by show (-9223372036854775808 : Int) ≤ _; omega, by show _ ≤ (9223372036854775807 : Int); omega⟩
theorem parseM_dig : ∀ (l : List UInt8) (M acc : Nat), (∀ c, c ∈ l → dgB c = true) → (∃ u, Lib.parseUintM M acc l = .ok u) ∨ Lib.parseUintM M acc l = .range
  | [], M, acc, _ => .inl ⟨acc, rfl⟩
  | c :: r, M, acc, hd => by
    have hc := dgB_nat (hd c List.mem_cons_self)
    rw [Lib.parseUintM, if_pos hc]
    split
    · exact .inr rfl
    · split
      · exact .inr rfl
      · exact parseM_dig r M _ fun x hx => hd x (List.mem_cons_of_mem _ hx)
theorem parse_dig {l : List UInt8} (hne : l ≠ []) (hd : ∀ c, c ∈ l → dgB c = true) (neg : Bool) : (∃ v, Lib.parseIntB 64 (if neg = true then 45 :: l else l) = .ok v) ∨ Lib.parseIntB 64 (if neg = true then 45 :: l else l) = .range := by
  have hu : (∃ u, Lib.parseUintB 64 l = .ok u) ∨ Lib.parseUintB 64 l = .range := by unfold Lib.parseUintB; rw [if_neg hne]; exact parseM_dig l _ _ hd
  have fin : ∀ (c : UInt8) (r : List UInt8), (if c.toNat = 43 ∨ c.toNat = 45 then r else c :: r) = l → (∃ v, Lib.parseIntB 64 (c :: r) = .ok v) ∨ Lib.parseIntB 64 (c :: r) = .range := fun c r e => by
    unfold Lib.parseIntB
    simp only [e]
    rcases hu with ⟨u, hu⟩ | hu
    · rw [hu]
      simp only
      split
      · exact .inr rfl
      · split
        · exact .inr rfl
        · exact .inl ⟨_, rfl⟩
    · rw [hu]
      exact .inr rfl
  cases neg with
  | true =>
    rw [if_pos rfl]
    exact fin 45 l (if_pos (by decide))
  | false =>
    rw [if_neg (by simp)]
    cases l with
    | nil => exact absurd rfl hne
    | cons c r =>
      have hc := dgB_nat (hd c List.mem_cons_self)
      exact fin c r (if_neg (by omega))
/-- What stands behind a minus. -/
theorem trim_cases (l : List UInt8) : ∃ neg : Bool, l = (if neg = true then 45 :: Lib.trimPrefix l [45] else Lib.trimPrefix l [45]) := by
  unfold Lib.trimPrefix Lib.hasPrefix
  cases l with
  | nil => exact ⟨false, rfl⟩
  | cons c r =>
    by_cases h : (45 : UInt8) = c
    · subst h
      exact ⟨true, by simp [List.isPrefixOf]⟩
    · exact ⟨false, by simp [List.isPrefixOf, h]⟩
end Go.Proofs.YtjlfjjgjghdokaaGreatDoor
