/- An amount is read of words: the walk. -/
import Derived.Test.YtgbmambkgcjhfaaGreatDoorD21
set_option linter.unusedVariables false
namespace Go.Wk
section
variable {P : Program} {T : Tab} {K : Value → World → Prop} {w : World} {B : Base} {S S' : List Asn} {F : List Fact}
/-- A string's bytes as integers. -/
def bytesI (s : ByteArray) : List Int := s.data.toList.map fun b => ((b.toNat : Nat) : Int)
theorem bytesI_len (s : ByteArray) : (bytesI s).length = s.size := by unfold bytesI; rw [List.length_map, Array.length_toList]; rfl
/-- The bytes of a string in a row of their own, which nobody writes. -/
theorem convB_rule (hT : T.Ok P) (H : Hp B S F w) {src dst e : TypeId} {i1 i2 i3 : TypeInfo} {s : ByteArray} (hs : T src = some ⟨.string, i1⟩) (hd : T dst = some ⟨.slice e, i2⟩) (he : T e = some ⟨.int .u8, i3⟩) (hz : s.size ≤ 9223372036854775807)
    (k : ∀ g c w', Hp B S (Sl (intR .u8) (.slice (some ⟨g, 0, none⟩) s.size c) (bytesI s) :: F) w' → K (.slice (some ⟨g, 0, none⟩) s.size c) w') : ConvK P K w src dst (.string s) := by
  refine ConvK.of (Lib.run_convert_string_bytes w src dst e s (hT src _ hs).1 (hT dst _ hd).1 (hT e _ he).1) (k _ _ _ ?_)
  have hb : RowKit.Below w.heap.size w (Lib.bytesWorld w e s) := by
    refine ⟨rfl, rfl, rfl, ?_, fun k hk => Lib.bytesWorld_at_old w e s k hk⟩
    rw [Lib.bytesWorld_size]; omega
  obtain ⟨h1, h2, h3, h4, h5, J, fp, hsp, ha, r1, r2, r3, r4, r5⟩ := H
  have hnew : ∀ b, fp b → ¬ (J b ∨ b = w.heap.size) := fun b hfb h => by
    rcases h with h | h
    · exact r5 b hfb h
    · have := hsp.lt b hfb; omega
  have hk : ∀ b, J b → (Lib.bytesWorld w e s).heap[b]? = w.heap[b]? := fun b hj => hb.block b (r3 b hj)
  refine ⟨hb.os.trans h1, hb.tape.trans h2, hb.output.trans h3, Nat.le_trans h4 hb.size, fun b hlb hM => (hb.block b (Nat.lt_of_lt_of_le hlb h4)).trans (h5 b hlb hM), (fun b => J b ∨ b = w.heap.size), fp, hsp.keep (fun b hfb => hb.block b (hsp.lt b hfb)) hnew, ?_, ?_, fun b hb2 => .inl (r2 b hb2), ?_, r4, hnew⟩
  · intro f hf
    rcases List.mem_cons.1 hf with rfl | hf
    · refine ⟨some ⟨w.heap.size, 0, none⟩, _, by rw [bytesI_len], by rw [bytesI_len]; exact grownCap_ge w s.size 0 e, grownCap_le_maxLen w s.size 0 e hz, (fun h => by cases h), fun i x hx => ⟨w.heap.size, 0, rfl, .inr rfl, (), ?_, ?_, fun f hf => by cases hf⟩⟩
      · unfold bytesI at hx
        rw [List.getElem?_map] at hx
        obtain ⟨b, _, rfl⟩ := Option.map_eq_some_iff.1 hx
        exact ⟨by show (0 : Int) ≤ _; omega, by show ((b.toNat : Nat) : Int) ≤ 255; have := b.toNat_lt; omega⟩
      · intro j v hj
        rcases j with _ | j
        · have hi : i < s.size := by
            have := (List.getElem?_eq_some_iff.1 hx).1
            rwa [bytesI_len] at this
          have hc := Lib.bytesWorld_cell w e s i hi
          have hv : v = .int .u8 x := by simpa using hj.symm
          have hxe : x = ((s.data.toList.getD i 0).toNat : Int) := by
            unfold bytesI at hx
            rw [List.getElem?_map] at hx
            obtain ⟨b, hb3, rfl⟩ := Option.map_eq_some_iff.1 hx
            rw [List.getD, hb3]; rfl
          rw [hv, hxe, ← hc]
          congr 2
          show 0 + i * 1 + 0 = i
          omega
        · simp at hj
    · exact f.mono (ha f hf) (fun b hj => .inl hj) hk
  · intro b hj
    rcases hj with hj | hj
    · exact r1 b hj
    · exact .inr (by omega)
  · intro b hj
    have := Lib.bytesWorld_size w e s
    rcases hj with hj | hj
    · have := r3 b hj; omega
    · omega
/-- A string's byte. -/
theorem strI_rule (hT : T.Ok P) {t : TypeId} {it : TypeInfo} {l : List UInt8} {b : UInt8} {r : List UInt8} {kd : IntKind} (ht : T t = some ⟨.string, it⟩) (hl : l = b :: r) (k : K (.int .u8 ((b.toNat : Nat) : Int)) w) : IndexK P K w t (.string ⟨l.toArray⟩) (.int kd 0) := by
  subst hl
  refine IndexK.of (v := .int .u8 ((b.toNat : Nat) : Int)) (w' := w) ?_ k
  have hb : (⟨(b :: r).toArray⟩ : ByteArray)[0]? = some b := by rfl
  simp [Instr.index, asIntOf, run_und hT ht, hb]
end
end Go.Wk
namespace Go.Proofs.YtgbmambkgcjhfaaGreatDoor
open Go Go.Proofs Go.Wk Go.Pl
theorem parseI64_in {l : List UInt8} {v : Int} (h : Lib.parseIntB 64 l = .ok v) : inK .i64 v := by
  cases l with
  | nil => cases h
  | cons c r =>
    unfold Lib.parseIntB at h
    simp only at h
    split at h
    · cases h
    · cases h
    · split at h
      · cases h
      · split at h
        · cases h
        · injection h with h
          rw [← h]
          split
          · exact ⟨by show (-9223372036854775808 : Int) ≤ _; omega, by show _ ≤ (9223372036854775807 : Int); omega⟩
          · exact ⟨by show (-9223372036854775808 : Int) ≤ _; omega, by show _ ≤ (9223372036854775807 : Int); omega⟩
theorem parseM_dig : ∀ (l : List UInt8) (M acc : Nat), (∀ c, c ∈ l → dgB c = true) → (∃ u, Lib.parseUintM M acc l = .ok u) ∨ Lib.parseUintM M acc l = .range
  | [], M, acc, _ => .inl ⟨acc, rfl⟩
  | c :: r, M, acc, hd => by
    have hc := dgB_nat (hd c List.mem_cons_self)
    rw [Lib.parseUintM, if_pos hc]
    split
    · exact .inr rfl
    · split
      · exact .inr rfl
      · exact parseM_dig r M _ fun x hx => hd x (List.mem_cons_of_mem _ hx)
theorem parse_dig {l : List UInt8} (hne : l ≠ []) (hd : ∀ c, c ∈ l → dgB c = true) (neg : Bool) : (∃ v, Lib.parseIntB 64 (if neg = true then 45 :: l else l) = .ok v) ∨ Lib.parseIntB 64 (if neg = true then 45 :: l else l) = .range := by
  have hu : (∃ u, Lib.parseUintB 64 l = .ok u) ∨ Lib.parseUintB 64 l = .range := by unfold Lib.parseUintB; rw [if_neg hne]; exact parseM_dig l _ _ hd
  have fin : ∀ (c : UInt8) (r : List UInt8), (if c.toNat = 43 ∨ c.toNat = 45 then r else c :: r) = l → (∃ v, Lib.parseIntB 64 (c :: r) = .ok v) ∨ Lib.parseIntB 64 (c :: r) = .range := fun c r e => by
    unfold Lib.parseIntB
    simp only [e]
    rcases hu with ⟨u, hu⟩ | hu
    · rw [hu]
      simp only
      split
      · exact .inr rfl
      · split
        · exact .inr rfl
        · exact .inl ⟨_, rfl⟩
    · rw [hu]
      exact .inr rfl
  cases neg with
  | true =>
    rw [if_pos rfl]
    exact fin 45 l (if_pos (by decide))
  | false =>
    rw [if_neg (by simp)]
    cases l with
    | nil => exact absurd rfl hne
    | cons c r =>
      have hc := dgB_nat (hd c List.mem_cons_self)
      exact fin c r (if_neg (by omega))
/-- What stands behind a minus. -/
theorem trim_cases (l : List UInt8) : ∃ neg : Bool, l = (if neg = true then 45 :: Lib.trimPrefix l [45] else Lib.trimPrefix l [45]) := by
  unfold Lib.trimPrefix Lib.hasPrefix
  cases l with
  | nil => exact ⟨false, rfl⟩
  | cons c r =>
    by_cases h : (45 : UInt8) = c
    · subst h
      exact ⟨true, by simp [List.isPrefixOf]⟩
    · exact ⟨false, by simp [List.isPrefixOf, h]⟩
end Go.Proofs.YtgbmambkgcjhfaaGreatDoor
