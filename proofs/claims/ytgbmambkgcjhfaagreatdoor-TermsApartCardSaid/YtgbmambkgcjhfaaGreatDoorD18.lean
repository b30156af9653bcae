/- Decimal numerals of uint64: the walk. -/
import Derived.Test.YtgbmambkgcjhfaaGreatDoorD17
import Derived.Lib.ItoaMem
import Derived.Laws.Slices
import Derived.Laws.BytesString
set_option linter.unusedVariables false
namespace Go.Wk
section
variable {P : Program} {T : Tab} {K : Value → World → Prop} {w : World} {B : Base} {S S' : List Asn} {F : List Fact}
/-- a[:k] of an array in a block. -/
theorem sliceArr_h (hT : T.Ok P) {t e : TypeId} {it : TypeInfo} {de : TD} {len b k : Nat} {kd : IntKind} (ht : T t = some ⟨.array len e, it⟩) (he : T e = some de) (hk : k ≤ len) (kk : K (.slice (some ⟨b, 0, none⟩) k len) w) : SliceK P K w t (.pointer (some ⟨b, 0, none⟩)) none (some (.int kd k)) none := by
  have e1 : P.elem t = e := by unfold Program.elem; rw [(hT t _ ht).1]
  have e2 : P.arrayLen t = len := by unfold Program.arrayLen; rw [(hT t _ ht).1]
  refine SliceK.of ?_ kk
  have hu : P.underlying t = some (.array (P.arrayLen t) (P.elem t)) := by rw [e1, e2]; exact (hT t _ ht).1
  rw [run_sliceAt_array_h w t _ hu kd k (by omega) (by rw [e2]; omega), e1, run_szOf hT he]
  simp only [Result.andThen_ok, slicedAt, Int.toNat_natCast, Nat.zero_mul, Nat.sub_zero, e2]
  congr 2
  split
  · rfl
  · exact congrArg some (addr_zero _)
theorem push_fold : ∀ (l : List UInt8) (s : ByteArray), (l.map fun b => ((b.toNat : Nat) : Int)).foldl (fun r n => r.push (UInt8.ofNat n.toNat)) s = ⟨s.data ++ l.toArray⟩
  | [], s => by simp
  | x :: l, s => by
    simp only [List.map_cons, List.foldl_cons]
    rw [push_fold l]
    congr 1
    show (s.push (UInt8.ofNat ((x.toNat : Nat) : Int).toNat)).data ++ l.toArray = s.data ++ (x :: l).toArray
    rw [Int.toNat_natCast, UInt8.ofNat_toNat, ByteArray.data_push]
    apply Array.ext'
    simp
/-- Bytes of one's own as a string. -/
theorem strB_rule (hT : T.Ok P) (H : Hp B S F w) {src dst e t0 : TypeId} {i1 i2 i3 : TypeInfo} {b n c : Nat} {cs : List Value} (l : List UInt8) [hp : TakeB S b cs t0 S'] (hs : T src = some ⟨.slice e, i1⟩) (he : T e = some ⟨.int .u8, i2⟩) (hd : T dst = some ⟨.string, i3⟩)
    (hl : l.length = n) (hc : cs.take n = l.map fun b => Value.int .u8 (b.toNat : Int)) (k : K (.string ⟨l.toArray⟩) w) : ConvK P K w src dst (.slice (some ⟨b, 0, none⟩) n c) := by
  obtain ⟨fa, ha⟩ := H.own (A := blk b cs t0) (hp := ⟨hp.perm⟩)
  have hcells := blk_cells ha
  refine ConvK.of ?_ k
  rw [run_convert_bytes_string w src dst e _ _ _ (hT src _ hs).1 (hT e _ he).1 (hT dst _ hd).1]
  have hload := run_loadCells_list (P := P) w ⟨b, 0, none⟩ (l.map fun b => Value.int .u8 (b.toNat : Int)) fun j v hj => by
    rw [add_plain]
    refine hcells j v ?_
    rw [← hc, List.getElem?_take] at hj
    split at hj
    · exact hj
    · cases hj
  rw [List.length_map, hl] at hload
  have e1 : (l.map fun b => Value.int .u8 (b.toNat : Int)) = (l.map fun b => ((b.toNat : Nat) : Int)).map (Value.int .u8) := by simp [List.map_map, Function.comp_def]
  rw [e1] at hload
  rw [run_bytesToString w _ _ _ _ hload, push_fold, show ByteArray.empty.data = #[] from rfl, Array.empty_append]
end
end Go.Wk
namespace Go.Proofs.YtgbmambkgcjhfaaGreatDoor
open Go Go.Proofs Go.Wk Go.RowKit
theorem smallS (i : Nat) (h : i < 100) : CB 136 [.int .i64 i] (.string (strOf (Lib.decDigits i))) := fun w M I H =>
  ctrLib H Tryz.call136 ((Tryz.internal_strconv_small i h w).mono fun e w' h => ⟨(), h.1, trivial, by rw [h.2]; exact Below.refl _ _⟩)
theorem numDigits (u : Nat) (h1 : 1 ≤ u) (h2 : u < 18446744073709551616) (w : World) (M I : BS) (H : Hp ⟨w, M, I⟩ [] [LibF] w) :
    Ctr Tryz.prog 137 [.int .u64 u] w M I (fun _ : Unit => .int .i64 (Lib.nDigits u)) (fun _ => True) (fun _ => []) (fun _ => []) := by
  obtain ⟨m, pe, pr, I2, hl⟩ := hpLib H
  exact ctrLib H Tryz.call137 ((Tryz.internal_strconv_numDigits u h1 h2 w hl.tab.2).mono fun e w' h => ⟨(), h.1, trivial, by rw [h.2]; exact Below.refl _ _⟩)
@[reducible] def encB (b : UInt8) : Value := .int .u8 (b.toNat : Int)
/-- formatBase10 into a fresh array: the numeral's digits in front. -/
theorem fmt10 (b u : Nat) (tt : TypeId) (hu : u < 18446744073709551616) (hd : Lib.nDigits u ≤ 24) (w : World) (M I : BS) (H : Hp ⟨w, M, I⟩ [blk b (List.replicate 24 (.int .u8 0)) tt] [] w) :
    Ctr Tryz.prog 138 [.slice (some ⟨b, 0, none⟩) (Lib.nDigits u) 24, .int .u64 u] w M I (fun _ : Unit => .tuple #[]) (fun _ => True) (fun _ => [blk b ((Lib.decDigits u).map encB ++ List.replicate (24 - Lib.nDigits u) (.int .u8 0)) tt]) (fun _ => []) := by
  obtain ⟨fa, ha⟩ := Hp.own (A := blk b (List.replicate 24 (.int .u8 0)) tt) (hp := ⟨.refl _⟩) H
  have hz : (Array.replicate (Lib.nDigits u) (0 : UInt8)).size = Lib.nDigits u := by simp
  have hH : Sort.Holds (fun (b : UInt8) => Value.int .u8 (b.toNat : Int)) w b 0 (Array.replicate (Lib.nDigits u) (0 : UInt8)) := by
    intro j hj
    rw [hz] at hj
    have hc := blk_cells ha j (.int .u8 0) (by rw [List.getElem?_replicate, if_pos (by omega)])
    refine ⟨?_, ?_⟩
    · rw [hc, getElem!_pos _ j (by rw [hz]; exact hj)]; simp
    · simp [World.frozen?, ha.2]
  have h := Tryz.internal_strconv_formatBase10 b 0 24 u (Array.replicate (Lib.nDigits u) (0 : UInt8)) w hH (by rw [hz]; exact Lib.lt_pow_nDigits u) hu (by rw [hz]; omega)
  rw [hz] at h
  refine Ctr.of_calls Tryz.call138 (h.mono fun e w' hh => ?_)
  obtain ⟨h1, n, v', dk, h2, h3⟩ := hh
  refine ⟨(), h1, trivial, ?_⟩
  have hlen := Lib.decDigits_length u
  have hcells : Sort.putCells (fun (b : UInt8) => Value.int .u8 (b.toNat : Int)) 0 dk (List.replicate 24 (Value.int .u8 0)).toArray = ((Lib.decDigits u).map encB ++ List.replicate (24 - Lib.nDigits u) (Value.int .u8 0)).toArray := by
    apply Array.ext
    · simp [Sort.putCells, hlen]; omega
    · intro j h4 h5
      simp only [Sort.putCells, Array.size_mapIdx, List.size_toArray, List.length_replicate] at h4
      simp only [Sort.putCells, Array.getElem_mapIdx, List.getElem_toArray, List.getElem_replicate, Nat.zero_le, true_and, Nat.zero_add, Nat.sub_zero, h3.size]
      by_cases hj : j < Lib.nDigits u
      · rw [if_pos hj, List.getElem_append_left (by simp [hlen]; exact hj), List.getElem_map, Lib.row_is_numeral h3 j (by rw [hlen]; exact hj)]
      · rw [if_neg hj, List.getElem_append_right (by simp [hlen]; omega), List.getElem_replicate]
  refine Hp.step (A := blk b (List.replicate 24 (.int .u8 0)) tt) (hp := ⟨.refl _⟩) H (by rw [h2]; rfl) (by rw [h2]; rfl) (by rw [h2]; rfl) (by rw [h2]; simp [Sort.putRow, Sort.mapBlock, World.drewN]) fun fa ha => ⟨fun k _ hk => ?_, fa, ⟨ha.1, ?_⟩, fun b hb => .inl hb⟩
  · have hne : b ≠ k := fun e => hk ((ha.1 k).2 e.symm)
    rw [h2]
    show (w.heap.modify b _)[k]? = _
    rw [Array.getElem?_modify, if_neg hne]
  · rw [h2]
    show (w.heap.modify b _)[b]? = _
    rw [Array.getElem?_modify, if_pos rfl, ha.2]
    show some (Obj.cells (Sort.putCells _ 0 dk _) tt (0, 0)) = _
    rw [hcells]
/-- strconv.FormatUint(u, 10). -/
theorem formatUint (u : Nat) (hu : u < 18446744073709551616) (w : World) (M I : BS) (H : Hp ⟨w, M, I⟩ [] [LibF] w) :
    Ctr Tryz.prog 46 [.int .u64 u, .int .i64 10] w M I (fun _ : Unit => .string (strOf (Lib.decDigits u))) (fun _ => True) (fun _ => []) (fun _ => []) := by
  have hn20 := Lib.nDigits_le20 u hu
  have hlen := Lib.decDigits_length u
  refine Exe.of_ev tok Tryz.call46 Tryz.func46 rfl rfl rfl ?_
  have inner : ∀ M I, Hp ⟨w, M, I⟩ [] [LibF] w → Ctr Tryz.prog 95 [.int .u64 u, .int .i64 10] w M I (fun _ : Unit => .string (strOf (Lib.decDigits u))) (fun _ => True) (fun _ => []) (fun _ => []) := fun M I H => by
    refine Exe.of_ev tok Tryz.call95 Tryz.func95 rfl rfl rfl ?_
    refine brd (fun hlt => ?_) (fun hge => ?_)
    · have ew : IntKind.i64.wrap (u : Int) = (u : Int) := i64w (by omega) (by omega)
      refine call_rule H (fun M I _ h => ew.symm ▸ smallS u (by omega) _ M I h) fun _ w1 _ H1 => ?_
      exact Exists.intro () (And.intro rfl (And.intro trivial (Hp.keep H1)))
    refine alloc_as tok H (List.replicate 24 (.int .u8 0)) rfl rfl rfl fun b w1 H1 => ?_
    refine call_rule H1 (fun M I _ h => numDigits u (by omega) hu _ M I h) fun _ w2 _ H2 => ?_
    refine sliceArr_h tok rfl rfl (by omega) ?_
    refine call_rule H2 (fun M I _ h => fmt10 b u 214 hu (by omega) _ M I h) fun _ w3 _ H3 => ?_
    refine sliceArr_h tok rfl rfl (by omega) ?_
    refine strB_rule tok H3 (Lib.decDigits u) rfl rfl rfl hlen (by rw [List.take_append_of_le_length (by simp [hlen]), List.take_of_length_le (by simp [hlen])]) ?_
    exact Exists.intro () (And.intro rfl (And.intro trivial (Hp.keep H3)))
  refine call_rule H (fun M I _ h => inner M I h) fun _ w1 _ H1 => ?_
  exact Exists.intro () (And.intro rfl (And.intro trivial (Hp.keep H1)))
end Go.Proofs.YtgbmambkgcjhfaaGreatDoor
