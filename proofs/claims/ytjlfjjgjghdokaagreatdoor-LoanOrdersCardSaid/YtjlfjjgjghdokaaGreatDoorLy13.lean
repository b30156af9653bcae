/- An amount is read of words: the walk. -/
import Derived.Test.YtjlfjjgjghdokaaGreatDoorLy12
import Derived.Laws.Strings2
set_option linter.unusedVariables false
namespace Go.Proofs.YtjlfjjgjghdokaaGreatDoor
open Go Go.Proofs Go.Wk Go.Pl
/-- What a reader of amounts says: the amount whose words these are, or an error, and then they are no amount's. -/
def CoinRd (l : List UInt8) (a : Int × Er) : Prop :=
  (a.2 = none ∧ l = coinL a.1 ∧ inK .i64 a.1) ∨ (a.2.isSome = true ∧ a.1 = 0 ∧ ∀ c, 0 ≤ c → c ≤ 9223372036854775807 → l ≠ coinL c)
@[reducible] def adV (a : Int × Er) : Value := .tuple #[.int .i64 a.1, erV a.2]
@[reducible] def erN (c : Int) : Er := some (100, .int .i64 c)
theorem trimM (l : List UInt8) : CB 135 [.string (strOf l), .string ⟨#[45]⟩] (.string (strOf (Lib.trimPrefix l [45]))) := by
  have h := trimPrefix (strOf l) ⟨#[45]⟩
  rw [strOf_data] at h
  exact h
theorem cutD (l : List UInt8) (hs : l.length < 4294967281) (w : World) (M I : BS) (H : Hp ⟨w, M, I⟩ [] [LibF] w) :
    Ctr Tryz.prog 134 [.string (strOf l), .string ⟨#[46]⟩] w M I (fun _ : Unit => .tuple #[.string (strOf (Lib.cut l [46]).1), .string (strOf (Lib.cut l [46]).2.1), .bool (Lib.cut l [46]).2.2]) (fun _ => True) (fun _ => []) (fun _ => []) := by
  have h := cutS (strOf l) ⟨#[46]⟩ (by rw [strOf_size]; exact hs) w M I H
  rw [strOf_data] at h
  exact h
theorem cut_le (l sep : List UInt8) : (Lib.cut l sep).1.length ≤ l.length ∧ (Lib.cut l sep).2.1.length ≤ l.length := by
  unfold Lib.cut
  split
  · exact ⟨by rw [List.length_take]; omega, by rw [List.length_drop]; omega⟩
  · exact ⟨Nat.le_refl _, by simp⟩
theorem trim_le (l sep : List UInt8) : (Lib.trimPrefix l sep).length ≤ l.length := by
  unfold Lib.trimPrefix
  split
  · rw [List.length_drop]; omega
  · exact Nat.le_refl _
theorem cutY (l : List UInt8) (hs : l.length < 4294967281) (y : List UInt8 × List UInt8 × Bool) (hy : y = Lib.cut l [46]) (w : World) (M I : BS) (H : Hp ⟨w, M, I⟩ [] [LibF] w) :
    Ctr Tryz.prog 134 [.string (strOf l), .string ⟨#[46]⟩] w M I (fun _ : Unit => .tuple #[.string (strOf y.1), .string (strOf y.2.1), .bool y.2.2]) (fun _ => True) (fun _ => []) (fun _ => []) := by
  rw [hy]; exact cutD l hs w M I H
theorem trimY (l d : List UInt8) (hd : d = Lib.trimPrefix l [45]) : CB 135 [.string (strOf l), .string ⟨#[45]⟩] (.string (strOf d)) := by
  rw [hd]; exact trimM l
theorem toList_strOf (l : List UInt8) : (strOf l).toList = l := by rw [Lib.toList_data, strOf_data]
theorem noS_strOf (l : List UInt8) : noS (strOf l) = decide (l = []) := by
  unfold noS
  have e : ((⟨#[]⟩ : ByteArray).toList) = [] := toList_strOf []
  rw [toList_strOf, e]
  by_cases h : l = [] <;> simp [h]
theorem eqS_strOf (a b : List UInt8) : eqS (strOf a) (strOf b) = decide (a = b) := by
  unfold eqS
  rw [toList_strOf, toList_strOf]
  by_cases h : a = b <;> simp [h]
theorem bytesI_at {l : List UInt8} {i : Nat} {x : Int} (h : (bytesI (strOf l))[i]? = some x) : ∃ b, l[i]? = some b ∧ x = ((b.toNat : Nat) : Int) := by
  unfold bytesI at h
  rw [strOf_data, List.getElem?_map] at h
  obtain ⟨b, h1, h2⟩ := Option.map_eq_some_iff.1 h
  exact ⟨b, h1, h2.symm⟩
theorem dgI {b : UInt8} (h0 : ¬ ((b.toNat : Nat) : Int) < 48) (h1 : ¬ (57 : Int) < ((b.toNat : Nat) : Int)) : dgB b = true := by
  unfold dgB; simp; omega
theorem parse_two {w d p : List UInt8} (hd : d = Lib.trimPrefix w [45]) (hne : d ≠ []) (hdg : ∀ b, b ∈ d ++ p → dgB b = true) : (∃ v, Lib.parseIntB 64 (w ++ p) = .ok v) ∨ Lib.parseIntB 64 (w ++ p) = .range := by
  obtain ⟨neg, hw⟩ := trim_cases w
  rw [← hd] at hw
  have e : w ++ p = if neg = true then 45 :: (d ++ p) else d ++ p := by
    rw [hw]
    cases neg <;> simp
  have h := parse_dig (l := d ++ p) (by simp [hne]) hdg neg
  rw [← e] at h
  exact h
set_option maxHeartbeats 4000000 in
set_option maxRecDepth 20000 in
theorem coinRead (l : List UInt8) (hs : l.length < 4294967281) (w : World) (M I : BS) (H : Hp ⟨w, M, I⟩ [] [LibF] w) :
    Ctr Tryz.prog 77 [.string (strOf l)] w M I adV (CoinRd l) (fun _ => []) (fun _ => []) := by
  obtain ⟨pr, H⟩ := rangeGlob H
  obtain ⟨y, hy⟩ : ∃ y, y = Lib.cut l [46] := ⟨_, rfl⟩
  obtain ⟨d, hd⟩ : ∃ d, d = Lib.trimPrefix y.1 [45] := ⟨_, rfl⟩
  have hle := cut_le l [46]
  rw [← hy] at hle
  have hld : d.length ≤ y.1.length := by rw [hd]; exact trim_le _ _
  have hcoin : ∀ c, 0 ≤ c → l = coinL c → y.1 = cQ c ∧ y.2.1 = cR c ∧ y.2.2 = true ∧ d = cQ c := fun c h0 e => by
    have h1 : y = (cQ c, cR c, true) := by rw [hy, e]; exact coin_cut h0
    rw [hd, h1]
    exact ⟨rfl, rfl, rfl, trim_cQ c⟩
  have hno : ∀ (e : Er), e.isSome = true → (∀ c, 0 ≤ c → c ≤ 9223372036854775807 → l = coinL c → False) → CoinRd l (0, e) := fun e he h => .inr ⟨he, rfl, fun c h0 h1 e => h c h0 h1 e⟩
  refine Exe.of_ev tok Tryz.call77 Tryz.func77 rfl rfl rfl ?_
  refine call_rule H (fun M I _ h => cutY l hs y hy _ M I h) fun _ w1 _ H1 => ?_
  refine br (fun q => ?_) (fun q => ?_)
  · have q : (!y.2.2) = true := q
    exact Exists.intro (0, erN 15) (And.intro rfl (And.intro (hno _ rfl fun c h0 _ e => by rw [(hcoin c h0 e).2.2.1] at q; cases q) (Hp.keep H1)))
  have q : (!y.2.2) = false := q
  refine br (fun q2 => ?_) (fun q2 => ?_)
  · have q2 : (!(((strOf y.2.1).size : Int) == 2)) = true := q2
    exact Exists.intro (0, erN 15) (And.intro rfl (And.intro (hno _ rfl fun c h0 _ e => by rw [(hcoin c h0 e).2.1, strOf_size] at q2; cases q2) (Hp.keep H1)))
  have q2 : (!(((strOf y.2.1).size : Int) == 2)) = false := q2
  have hp2 : y.2.1.length = 2 := by
    have e : (((strOf y.2.1).size : Int) == 2) = true := by simpa using q2
    have e := eq_of_beq e
    rw [strOf_size] at e
    omega
  have hsz : (strOf (d ++ y.2.1)).size = (d ++ y.2.1).length := strOf_size _
  have hlen : (d ++ y.2.1).length = d.length + 2 := by rw [List.length_append, hp2]
  refine call_rule H1 (fun M I _ h => trimY y.1 d hd _ M I h) fun _ w2 _ H2 => ?_
  refine sadd_as (strOf (d ++ y.2.1)) (strOf_app _ _) (by rw [hsz]; omega) ?_
  refine convB_rule tok H2 rfl rfl rfl (by rw [hsz]; omega) fun g cp w3 H3 => ?_
  refine loop_rule tok (σ := Nat) 35175782154764 (fun i => [(33, .int .i64 (i : Int))]) (fun i w' => i ≤ (strOf (d ++ y.2.1)).size ∧ (∀ j b, j < i → (d ++ y.2.1)[j]? = some b → dgB b = true) ∧ Hp ⟨w, M, I⟩ [] [Sl (Go.Wk.intR .u8) (.slice (some ⟨g, 0, none⟩) (strOf (d ++ y.2.1)).size cp) (bytesI (strOf (d ++ y.2.1))), Glob 1 (.iface 391 (.pointer pr)), LibF] w') (fun i => (strOf (d ++ y.2.1)).size - i) 0 rfl rfl ⟨rfl, trivial⟩ ⟨Nat.zero_le _, fun j b h => absurd h (Nat.not_lt_zero _), Hp.keep H3⟩ ?_
  intro i j4 w4 hW
  have hi := hW.1
  have hdg := hW.2.1
  have H4 := hW.2.2
  refine brd (fun hlt => ?_) (fun hge => ?_)
  · have ew : IntKind.i64.wrap ((i : Int) + 1) = ((i + 1 : Nat) : Int) := w64 (by omega) (by omega)
    refine idx_rule tok H4 rfl rfl rfl (by omega) hlt fun eb eo x hx H5 => ?_
    have hx' : (bytesI (strOf (d ++ y.2.1)))[i]? = some x := by simpa using hx
    refine Exists.elim (bytesI_at hx') fun b hb => ?_
    refine ld1_rule tok H5 (v := fun _ => .int .u8 x) rfl rfl (fun _ => rfl) fun _ _ H6 => ?_
    have hbad : dgB b = false → ∀ c, 0 ≤ c → c ≤ 9223372036854775807 → l = coinL c → False := fun hf c h0 _ e => by
      have hc := hcoin c h0 e
      have hm := List.mem_of_getElem? hb.1
      rw [hc.2.1, hc.2.2.2] at hm
      rcases List.mem_append.1 hm with h | h
      · rw [cQ_dig c b h] at hf; cases hf
      · rw [cR_dig c b h] at hf; cases hf
    refine brd (fun h48 => ?_) (fun h48 => ?_)
    · exact Exists.intro (0, erN 15) (And.intro rfl (And.intro (hno _ rfl (hbad (by rw [hb.2] at h48; unfold dgB; simp; omega))) (Hp.keep H6)))
    refine brd (fun h57 => ?_) (fun h57 => ?_)
    · exact Exists.intro (0, erN 15) (And.intro rfl (And.intro (hno _ rfl (hbad (by rw [hb.2] at h57; unfold dgB; simp; omega))) (Hp.keep H6)))
    refine Exists.intro (i + 1) (And.intro ⟨congrArg (Value.int .i64) ew, trivial⟩ (And.intro (by show (strOf (d ++ y.2.1)).size - (i + 1) < (strOf (d ++ y.2.1)).size - i; omega) ⟨by omega, fun j b2 hj hb2 => ?_, Hp.keep H6⟩))
    by_cases e : j = i
    · rw [e, hb.1] at hb2
      injection hb2 with hb2
      rw [← hb2]
      rw [hb.2] at h48 h57
      exact dgI h48 h57
    · exact hdg j b2 (by omega) hb2
  have hD : ∀ b, b ∈ d ++ y.2.1 → dgB b = true := fun b hm => by
    obtain ⟨j, hj⟩ := List.getElem?_of_mem hm
    exact hdg j b (by have := (List.getElem?_eq_some_iff.1 hj).1; omega) hj
  refine br (fun q3 => ?_) (fun q3 => ?_)
  · have q3 : noS (strOf d) = true := q3
    exact Exists.intro (0, erN 15) (And.intro rfl (And.intro (hno _ rfl fun c h0 _ e => by rw [noS_strOf, (hcoin c h0 e).2.2.2] at q3; exact cQ_ne c (of_decide_eq_true q3)) (Hp.keep H4)))
  have q3 : noS (strOf d) = false := q3
  have hdne : d ≠ [] := fun e => by rw [noS_strOf, e] at q3; cases q3
  have hfin : ∀ w9, Hp ⟨w, M, I⟩ [] [Glob 1 (.iface 391 (.pointer pr)), LibF] w9 → Hp ⟨w, M, I⟩ [] [] w9 := fun w9 h => Hp.keep h
  have H5 : Hp ⟨w, M, I⟩ [] [Glob 1 (.iface 391 (.pointer pr)), LibF] w4 := Hp.keep H4
  have hwl : (y.1 ++ y.2.1).length ≤ l.length + 2 := by rw [List.length_append]; omega
  have hpc : ∀ c, 0 ≤ c → c ≤ 9223372036854775807 → l = coinL c → Lib.parseIntB 64 (y.1 ++ y.2.1) = .ok c := fun c h0 h1 e => by
    have hc := hcoin c h0 e
    rw [hc.1, hc.2.1]; exact coin_int h0 h1
  have hcase : ∀ b r, d = b :: r → (1 : Int) < ((strOf d).size : Int) → ((b.toNat : Int) == 48) = true → ∀ c, 0 ≤ c → c ≤ 9223372036854775807 → l = coinL c → False := fun b r h1 h2 h3 c h0 _ e => by
    have hc := hcoin c h0 e
    rw [strOf_size, h1, List.length_cons] at h2
    refine cQ_head c b r (by rw [← hc.2.2.2, h1]) (fun e2 => by rw [e2] at h2; simp at h2) ?_
    have h4 := eq_of_beq h3
    exact UInt8.toNat_inj.1 (by rw [show (48 : UInt8).toNat = 48 from rfl]; omega)
  refine Exists.elim (List.exists_cons_of_ne_nil hdne) fun b0 hb0 => Exists.elim hb0 fun r0 hr0 => ?_
  refine brd (fun h1 => ?_) (fun h1 => ?_)
  · refine strI_rule tok rfl hr0 ?_
    refine br (fun q4 => ?_) (fun q4 => ?_)
    · exact Exists.intro (0, erN 15) (And.intro rfl (And.intro (hno _ rfl (hcase b0 r0 hr0 h1 q4)) (Hp.keep H5)))
    refine sadd_as (strOf (y.1 ++ y.2.1)) (strOf_app _ _) (by rw [strOf_size]; omega) ?_
    refine Or.elim (parse_two hd hdne hD) (fun hv => ?_) (fun hr => ?_)
    · refine Exists.elim hv fun v hv => ?_
      refine call_rule H5 (fun M I _ h => parseI64ok (strOf (y.1 ++ y.2.1)) (by rw [strOf_size]; omega) v (by rw [strOf_data]; exact hv) _ M I h) fun _ w6 _ H6 => ?_
      refine glob_rule tok H6 (g := 1) (.iface 391 (.pointer pr)) rfl rfl ?_
      refine call_rule H6 (fun M I _ h => errIsNil pr _ M I h) fun _ w7 _ H7 => ?_
      refine call_rule H7 (fun M I _ h => coinText v (parseI64_in hv) _ M I h) fun _ w8 _ H8 => ?_
      refine br (fun q5 => ?_) (fun q5 => ?_)
      · have q5 : (!eqS (strOf (coinL v)) (strOf l)) = true := q5
        exact Exists.intro (0, erN 15) (And.intro rfl (And.intro (hno _ rfl fun c h0 h1 e => by
          have h2 := hpc c h0 h1 e
          rw [hv] at h2
          injection h2 with h2
          rw [eqS_strOf, h2, e, decide_eq_true rfl] at q5
          cases q5) (Hp.keep H8)))
      · have q5 : (!eqS (strOf (coinL v)) (strOf l)) = false := q5
        have q6 : l = coinL v := by
          rw [eqS_strOf] at q5
          have : decide (coinL v = l) = true := by simpa using q5
          exact (of_decide_eq_true this).symm
        exact Exists.intro (v, none) (And.intro rfl (And.intro (.inl ⟨rfl, q6, parseI64_in hv⟩) (Hp.keep H8)))
    · refine call_rule H5 (fun M I _ h => parseI64range (strOf (y.1 ++ y.2.1)) (by rw [strOf_size]; omega) (by rw [strOf_data]; exact hr) pr _ M I h) fun N w6 _ H6 => ?_
      refine glob_rule tok H6 (g := 1) (.iface 391 (.pointer pr)) rfl rfl ?_
      refine call_rule H6 (fun M I _ h => errIs N ⟨#[80, 97, 114, 115, 101, 73, 110, 116]⟩ (strOf (y.1 ++ y.2.1)) pr _ M I h) fun _ w7 _ H7 => ?_
      exact Exists.intro (0, erN 12) (And.intro rfl (And.intro (hno _ rfl fun c h0 h1 e => by
        have h2 := hpc c h0 h1 e
        rw [hr] at h2
        cases h2) (Hp.keep H7)))
  refine sadd_as (strOf (y.1 ++ y.2.1)) (strOf_app _ _) (by rw [strOf_size]; omega) ?_
  refine Or.elim (parse_two hd hdne hD) (fun hv => ?_) (fun hr => ?_)
  · refine Exists.elim hv fun v hv => ?_
    refine call_rule H5 (fun M I _ h => parseI64ok (strOf (y.1 ++ y.2.1)) (by rw [strOf_size]; omega) v (by rw [strOf_data]; exact hv) _ M I h) fun _ w6 _ H6 => ?_
    refine glob_rule tok H6 (g := 1) (.iface 391 (.pointer pr)) rfl rfl ?_
    refine call_rule H6 (fun M I _ h => errIsNil pr _ M I h) fun _ w7 _ H7 => ?_
    refine call_rule H7 (fun M I _ h => coinText v (parseI64_in hv) _ M I h) fun _ w8 _ H8 => ?_
    refine br (fun q5 => ?_) (fun q5 => ?_)
    · have q5 : (!eqS (strOf (coinL v)) (strOf l)) = true := q5
      exact Exists.intro (0, erN 15) (And.intro rfl (And.intro (hno _ rfl fun c h0 h1 e => by
        have h2 := hpc c h0 h1 e
        rw [hv] at h2
        injection h2 with h2
        rw [eqS_strOf, h2, e, decide_eq_true rfl] at q5
        cases q5) (Hp.keep H8)))
    · have q5 : (!eqS (strOf (coinL v)) (strOf l)) = false := q5
      have q6 : l = coinL v := by
        rw [eqS_strOf] at q5
        have : decide (coinL v = l) = true := by simpa using q5
        exact (of_decide_eq_true this).symm
      exact Exists.intro (v, none) (And.intro rfl (And.intro (.inl ⟨rfl, q6, parseI64_in hv⟩) (Hp.keep H8)))
  · refine call_rule H5 (fun M I _ h => parseI64range (strOf (y.1 ++ y.2.1)) (by rw [strOf_size]; omega) (by rw [strOf_data]; exact hr) pr _ M I h) fun N w6 _ H6 => ?_
    refine glob_rule tok H6 (g := 1) (.iface 391 (.pointer pr)) rfl rfl ?_
    refine call_rule H6 (fun M I _ h => errIs N ⟨#[80, 97, 114, 115, 101, 73, 110, 116]⟩ (strOf (y.1 ++ y.2.1)) pr _ M I h) fun _ w7 _ H7 => ?_
    exact Exists.intro (0, erN 12) (And.intro rfl (And.intro (hno _ rfl fun c h0 h1 e => by
      have h2 := hpc c h0 h1 e
      rw [hr] at h2
      cases h2) (Hp.keep H7)))
end Go.Proofs.YtjlfjjgjghdokaaGreatDoor
/- A day is read of words: the walk. -/
set_option linter.unusedVariables false
namespace Go.Wk
/-- A part of a string. -/
theorem strS_rule {P : Program} {T : Tab} {K : Value → World → Prop} {w : World} (hT : T.Ok P) {t : TypeId} {it : TypeInfo} {s : ByteArray} {k k' : IntKind} {i j : Int} (ht : T t = some ⟨.string, it⟩) (h0 : 0 ≤ i) (h1 : i ≤ j) (h2 : j ≤ s.size) (kk : K (.string (s.extract i.toNat j.toNat)) w) : SliceK P K w t (.string s) (some (.int k i)) (some (.int k' j)) none := by
  refine SliceK.of (v := .string (s.extract i.toNat j.toNat)) (w' := w) ?_ kk
  rw [run_sliceAt_string w t _ _ _ _ (hT t _ ht).1]
  exact run_slice_string w t s k k' i j (hT t _ ht).1 h0 h1 h2
/-- An array's value, built. -/
theorem PureK.build {P : Program} {K : Value → World → Prop} {w : World} {dst : Option Nat} {t ty : TypeId} {pos : String} {after : Array Edge} {guard : Option (Nat × Bool)} {parts : Array (Nat × Operand)} {ρ : Operand → Value} (v : Value) (h : (Instr.build t (parts.map fun (i, x) => (i, ρ x))).run P w = .ok v w) (k : K v w) : PureK P K w ⟨dst, .build t parts, ty, pos, after, guard⟩ ρ :=
  ⟨by
    have := NK_value h k
    exact this⟩
/-- An element of an array in a block. -/
theorem arrIx_rule {P : Program} {T : Tab} {K : Value → World → Prop} {w : World} (hT : T.Ok P) {t e : TypeId} {it : TypeInfo} {de : TD} {n b o sz : Nat} {kd : IntKind} {z : Int} (i : Nat) (hz : z = (i : Int)) (ht : T t = some ⟨.array n e, it⟩) (he : T e = some de) (hsz : de.info.size = sz) (hi : i < n) (k : K (.pointer (some ⟨b, o + i * sz, none⟩)) w) : IdxAddrK P K w t (.pointer (some ⟨b, o, none⟩)) (.int kd z) := by
  subst hz hsz
  have e1 : P.elem t = e := by unfold Program.elem; rw [(hT t _ ht).1]
  have e2 : P.arrayLen t = n := by unfold Program.arrayLen; rw [(hT t _ ht).1]
  have hu : P.underlying t = some (.array (P.arrayLen t) (P.elem t)) := by rw [e1, e2]; exact (hT t _ ht).1
  refine IdxAddrK.of (v := .pointer (some ⟨b, o + i * de.info.size, none⟩)) (w' := w) ?_ k
  have hs : (sizeOf e).run P w = .ok de.info.size w := run_szOf hT he w
  have hu2 := run_und hT ht w
  simp only [Instr.indexAt, asIntOf, Sem.run_bind, Sem.run_pure, Result.andThen_ok, hu2, Instr.sureAddr]
  rw [if_pos ⟨by omega, by omega⟩]
  simp only [Sem.run_bind, hs, Result.andThen_ok, Sem.run_pure, Int.toNat_natCast]
  rw [add_plain]
end Go.Wk
namespace Go.Proofs.YtjlfjjgjghdokaaGreatDoor
open Go Go.Proofs Go.Wk Go.Pl
/-- A parsed number and its error. -/
def NumRd (l : List UInt8) (a : Int × Er) : Prop :=
  match Lib.atoiAll l with
  | .ok v => a = (v, none)
  | _ => a.2.isSome = true
theorem atoiE (l : List UInt8) (hs : l.length ≤ 281474976710656) (w : World) (M I : BS) (H : Hp ⟨w, M, I⟩ [] [LibF] w) :
    Ctr Tryz.prog 79 [.string (strOf l)] w M I adV (NumRd l) (fun _ => []) (fun _ => []) := by
  refine (atoi (strOf l) (by rw [strOf_size]; exact hs) w M I H).imp fun a w' hφ hh => ?_
  rw [strOf_data] at hφ
  unfold NumRd
  cases a with
  | mk v o =>
    cases o with
    | none =>
      refine ⟨(v, none), rfl, ?_, hh⟩
      cases h : Lib.atoiAll l with
      | ok u =>
        rw [h] at hφ
        have e : (v, (none : Option Nat)) = (u, none) := hφ
        show (v, (none : Er)) = (u, none)
        have e2 : v = u := congrArg Prod.fst e
        rw [e2]
      | range => rw [h] at hφ; exact absurd hφ.2 (by simp)
      | _ => rw [h] at hφ; exact absurd hφ.2 (by simp)
    | some N =>
      refine ⟨(v, some (326, .pointer (some ⟨N, 0, none⟩))), rfl, ?_, hh⟩
      cases h : Lib.atoiAll l with
      | ok u => rw [h] at hφ; cases hφ
      | range => rfl
      | _ => rfl
/-- What a reader of days says. -/
def DayRd (s : ByteArray) (a : Int × Er) : Prop :=
  (a.2 = none ∧ DayT a.1 s ∧ dayB a.1 = true) ∨ (a.2.isSome = true ∧ a.1 = 0 ∧ ∀ n, ¬ DayT n s)
@[reducible] def ddV (a : Int × Er) : Value := .tuple #[.int .i32 a.1, erV a.2]
def loD (i : Nat) : Int := if i = 0 then 0 else if i = 1 then 5 else 8
def hiD (i : Nat) : Int := if i = 0 then 4 else if i = 1 then 7 else 10
theorem idxD (i : Nat) (h : i < 3) (w : World) : (Instr.index 256 (.agg #[.int .i64 0, .int .i64 4, .int .i64 5, .int .i64 7, .int .i64 8, .int .i64 10]) (.int .i64 (i : Int))).run Tryz.prog w = .ok (.agg #[.int .i64 (loD i), .int .i64 (hiD i)]) w :=
  match i, h with
  | 0, _ => by kernel_rfl
  | 1, _ => by kernel_rfl
  | 2, _ => by kernel_rfl
theorem set3 (i : Nat) (h : i < 3) (v a b c : Int) : setL [.int .i64 a, .int .i64 b, .int .i64 c] (0 + i * 1) [.int .i64 v] = [.int .i64 (if i = 0 then v else a), .int .i64 (if i = 1 then v else b), .int .i64 (if i = 2 then v else c)] :=
  match i, h with
  | 0, _ => rfl
  | 1, _ => rfl
  | 2, _ => rfl
theorem ble3 {i : Nat} (h : i < 3) : Nat.ble (0 + i * 1 + 1) 3 = true := Nat.ble_eq_true_of_le (by omega)
theorem ext_strOf (s : ByteArray) (a b : Nat) : s.extract a b = strOf ((s.data.toList.drop a).take (b - a)) := by
  rw [← Lib.extract_data, strOf_of]
/-- The part of a day's words that is read at a turn. -/
def dpart (s : ByteArray) (i : Nat) : List UInt8 := (s.data.toList.drop (loD i).toNat).take ((hiD i).toNat - (loD i).toNat)
theorem dpart_ext (s : ByteArray) (i : Nat) : s.extract (loD i).toNat (hiD i).toNat = strOf (dpart s i) := ext_strOf _ _ _
theorem dpart_len (s : ByteArray) (i : Nat) : (dpart s i).length ≤ 10 := by
  unfold dpart
  rw [List.length_take]
  unfold loD hiD
  split
  · simp; omega
  · split <;> simp <;> omega
theorem lohi (i : Nat) : 0 ≤ loD i ∧ loD i ≤ hiD i ∧ hiD i ≤ 10 := by
  unfold loD hiD
  split
  · omega
  · split <;> omega
/-- What stands at a day's words' parts. -/
def PartOk (s : ByteArray) (j : Nat) (x : Int) : Prop := ∀ v, Lib.atoiAll (dpart s j) = .ok v → x = v
theorem dayRead (s : ByteArray) (w : World) (M I : BS) (H : Hp ⟨w, M, I⟩ [] [LibF] w) :
    Ctr Tryz.prog 80 [.string s] w M I ddV (DayRd s) (fun _ => []) (fun _ => []) := by
  refine Exe.of_ev tok Tryz.call80 Tryz.func80 rfl rfl rfl ?_
  refine alloc_as tok H [.int .i64 0, .int .i64 0, .int .i64 0] rfl rfl rfl fun b w1 H1 => ?_
  refine PureK.build (.agg #[.int .i64 0, .int .i64 4]) (by kernel_rfl) ?_
  refine PureK.build (.agg #[.int .i64 5, .int .i64 7]) (by kernel_rfl) ?_
  refine PureK.build (.agg #[.int .i64 8, .int .i64 10]) (by kernel_rfl) ?_
  refine PureK.build (.agg #[.int .i64 0, .int .i64 4, .int .i64 5, .int .i64 7, .int .i64 8, .int .i64 10]) (by kernel_rfl) ?_
  refine loop_rule tok (σ := Nat × Int × Int × Int) 17179861100 (fun s => [(13, .int .i64 (s.1 : Int))]) (fun x w' => x.1 ≤ 3 ∧ (0 < x.1 → s.size = 10) ∧ (0 < x.1 → PartOk s 0 x.2.1) ∧ (1 < x.1 → PartOk s 1 x.2.2.1) ∧ (2 < x.1 → PartOk s 2 x.2.2.2) ∧ Hp ⟨w, M, I⟩ [blk b [.int .i64 x.2.1, .int .i64 x.2.2.1, .int .i64 x.2.2.2] 254] [LibF] w') (fun x => 3 - x.1) (0, 0, 0, 0) rfl rfl ⟨rfl, trivial⟩ ⟨Nat.zero_le _, fun h => absurd h (Nat.not_lt_zero _), fun h => absurd h (Nat.not_lt_zero _), fun h => absurd h (Nat.not_lt_zero _), fun h => absurd h (Nat.not_lt_zero _), Hp.keep H1⟩ ?_
  intro x j w2 hW
  have hx := hW.1
  have hx2 := hW.2.1
  have hp0 := hW.2.2.1
  have hp1 := hW.2.2.2.1
  have hp2 := hW.2.2.2.2.1
  have H2 := hW.2.2.2.2.2
  refine brd (fun hlt => ?_) (fun hge => ?_)
  · have ew : IntKind.i64.wrap ((x.1 : Int) + 1) = ((x.1 + 1 : Nat) : Int) := w64 (by omega) (by omega)
    have hlt3 : x.1 < 3 := by omega
    have hl := lohi x.1
    refine IndexK.of (idxD x.1 hlt3 w2) ?_
    refine alloc_as tok H2 [.int .i64 0, .int .i64 0] rfl rfl rfl fun c w3 H3 => ?_
    refine store_as tok H3 [.int .i64 (loD x.1), .int .i64 (hiD x.1)] rfl rfl rfl rfl rfl fun w4 H4 => ?_
    refine br (fun q => ?_) (fun q => ?_)
    · have q : (!((s.size : Int) == 10)) = true := q
      refine Exists.intro (0, erN 15) (And.intro rfl (And.intro (.inr ⟨rfl, rfl, fun n hn => ?_⟩) (Hp.keep H4)))
      obtain ⟨y, m, d, hd, _, hs⟩ := hn
      rw [hs, strOf_size, dat_length hd] at q
      cases q
    have q : (!((s.size : Int) == 10)) = false := q
    have hs10 : s.size = 10 := by
      have e : ((s.size : Int) == 10) = true := by simpa using q
      have e := eq_of_beq e
      omega
    refine arrIx_rule tok 0 rfl rfl rfl (sz := 1) rfl (by decide) ?_
    refine load_rule tok H4 (v := .int .i64 (loD x.1)) rfl ?_
    refine arrIx_rule tok 1 rfl rfl rfl (sz := 1) rfl (by decide) ?_
    refine load_rule tok H4 (v := .int .i64 (hiD x.1)) rfl ?_
    refine strS_rule tok rfl hl.1 hl.2.1 (by rw [hs10]; exact hl.2.2) ?_
    refine call_rule H4 (fun M I _ h => (dpart_ext s x.1).symm ▸ atoiE (dpart s x.1) (by have := dpart_len s x.1; omega) _ M I h) fun a w5 ha H5 => ?_
    refine arrIx_rule tok x.1 rfl rfl rfl (sz := 1) rfl hlt3 ?_
    refine store_as tok H5 [.int .i64 (if x.1 = 0 then a.1 else x.2.1), .int .i64 (if x.1 = 1 then a.1 else x.2.2.1), .int .i64 (if x.1 = 2 then a.1 else x.2.2.2)] rfl rfl (by show Nat.ble (0 + x.1 * 1 + 1) 3 = true; exact ble3 hlt3) rfl (set3 x.1 hlt3 a.1 x.2.1 x.2.2.1 x.2.2.2) fun w6 H6 => ?_
    have hpa : PartOk s x.1 a.1 := fun v hv => by
      unfold NumRd at ha
      rw [hv] at ha
      exact congrArg Prod.fst ha
    refine Exists.intro (x.1 + 1, if x.1 = 0 then a.1 else x.2.1, if x.1 = 1 then a.1 else x.2.2.1, if x.1 = 2 then a.1 else x.2.2.2) (And.intro ⟨congrArg (Value.int .i64) ew, trivial⟩ (And.intro (by show 3 - (x.1 + 1) < 3 - x.1; omega) ⟨hlt3, fun _ => hs10, fun _ => ?_, fun h => ?_, fun h => ?_, Hp.keep H6⟩))
    · show PartOk s 0 (if x.1 = 0 then a.1 else x.2.1)
      by_cases e : x.1 = 0
      · rw [if_pos e, ← e]; exact hpa
      · rw [if_neg e]; exact hp0 (by omega)
    · have h : 1 < x.1 + 1 := h
      show PartOk s 1 (if x.1 = 1 then a.1 else x.2.2.1)
      by_cases e : x.1 = 1
      · rw [if_pos e, ← e]; exact hpa
      · rw [if_neg e]; exact hp1 (by omega)
    · have h : 2 < x.1 + 1 := h
      show PartOk s 2 (if x.1 = 2 then a.1 else x.2.2.2)
      by_cases e : x.1 = 2
      · rw [if_pos e, ← e]; exact hpa
      · rw [if_neg e]; exact hp2 (by omega)
  · have hx3 : x.1 = 3 := by omega
    have hs10 := hx2 (by omega)
    have hno : ∀ e : Er, e.isSome = true → (∀ y m d, Dat y m d → s = strOf (datL y m d) → False) → DayRd s (0, e) := fun e he h => .inr ⟨he, rfl, fun n hn => by
      obtain ⟨y, m, d, hd, _, hs⟩ := hn
      exact h y m d hd hs⟩
    have hall : ∀ y m d, Dat y m d → s = strOf (datL y m d) → x.2.1 = y ∧ x.2.2.1 = m ∧ x.2.2.2 = d := fun y m d hD hs => by
      have p := datP hD
      have e : s.data.toList = datL y m d := by rw [hs, strOf_data]
      refine ⟨hp0 (by omega) y ?_, hp1 (by omega) m ?_, hp2 (by omega) d ?_⟩
      · show Lib.atoiAll ((s.data.toList.drop 0).take 4) = _
        rw [e, dat_y hD]; exact p.ay
      · show Lib.atoiAll ((s.data.toList.drop 5).take 2) = _
        rw [e, dat_m hD]; exact p.am
      · show Lib.atoiAll ((s.data.toList.drop 8).take 2) = _
        rw [e, dat_d hD]; exact p.ad
    refine arrIx_rule tok 0 rfl rfl rfl (sz := 1) rfl (by decide) ?_
    refine load_rule tok H2 (v := .int .i64 x.2.1) rfl ?_
    refine arrIx_rule tok 1 rfl rfl rfl (sz := 1) rfl (by decide) ?_
    refine load_rule tok H2 (v := .int .i64 x.2.2.1) rfl ?_
    refine arrIx_rule tok 2 rfl rfl rfl (sz := 1) rfl (by decide) ?_
    refine load_rule tok H2 (v := .int .i64 x.2.2.2) rfl ?_
    refine Or.elim (Classical.em (Dat x.2.1 x.2.2.1 x.2.2.2)) (fun hD => ?_) (fun hD => ?_)
    · have hr := num_range hD
      refine call_rule H2 (fun M I _ h => numberD x.2.1 x.2.2.1 x.2.2.2 hD _ M I h) fun _ w3 _ H3 => ?_
      have hdb : dayB (numD x.2.1 x.2.2.1 x.2.2.2) = true := by simp only [dayB, Bool.and_eq_true, decide_eq_true_eq]; omega
      refine call_rule H3 (fun M I _ h => dayText (numD x.2.1 x.2.2.1 x.2.2.2) hdb _ M I h) fun a w4 ha H4 => ?_
      refine br (fun q => ?_) (fun q => ?_)
      · have q : (!eqS (strOf (datL a.1 a.2.1 a.2.2)) s) = true := q
        refine Exists.intro (0, erN 15) (And.intro rfl (And.intro (hno _ rfl fun y m d hd hs => ?_) (Hp.keep H4)))
        obtain ⟨e1, e2, e3⟩ := hall y m d hd hs
        rw [e1, e2, e3] at ha
        obtain ⟨i1, i2, i3⟩ := num_inj ha.1 hd ha.2
        rw [hs, eqS_strOf, i1, i2, i3, decide_eq_true rfl] at q
        cases q
      · have q : (!eqS (strOf (datL a.1 a.2.1 a.2.2)) s) = false := q
        have e : strOf (datL a.1 a.2.1 a.2.2) = s := by
          have h1 : eqS (strOf (datL a.1 a.2.1 a.2.2)) (strOf s.data.toList) = true := by rw [strOf_of]; simpa using q
          rw [eqS_strOf] at h1
          rw [of_decide_eq_true h1, strOf_of]
        exact Exists.intro (numD x.2.1 x.2.2.1 x.2.2.2, none) (And.intro rfl (And.intro (.inl ⟨rfl, ⟨a.1, a.2.1, a.2.2, ha.1, ha.2, e.symm⟩, hdb⟩) (Hp.keep H4)))
    · have hdb : datB x.2.1 x.2.2.1 x.2.2.2 = false := by
        cases h : datB x.2.1 x.2.2.1 x.2.2.2
        · rfl
        · exact absurd (datB_iff.1 h) hD
      refine call_rule H2 (fun M I _ h => numberNo x.2.1 x.2.2.1 x.2.2.2 hdb _ M I h) fun _ w3 _ H3 => ?_
      refine Exists.intro (0, erN 15) (And.intro rfl (And.intro (hno _ rfl fun y m d hd hs => ?_) (Hp.keep H3)))
      obtain ⟨e1, e2, e3⟩ := hall y m d hd hs
      rw [e1, e2, e3] at hD
      exact hD hd
end Go.Proofs.YtjlfjjgjghdokaaGreatDoor
/- Terms in words: the walk. -/
set_option linter.unusedVariables false
namespace Go.Proofs.YtjlfjjgjghdokaaGreatDoor
open Go Go.Proofs Go.Wk Go.Pl
theorem join8 (g : Nat) (a1 a2 a3 a4 a5 a6 a7 a8 : List UInt8) (hlen : (Lib.join [a1, a2, a3, a4, a5, a6, a7, a8] [32]).length ≤ 140737488355328) (w : World) (M I : BS) (H : Hp ⟨w, M, I⟩ [blk g [.string (strOf a1), .string (strOf a2), .string (strOf a3), .string (strOf a4), .string (strOf a5), .string (strOf a6), .string (strOf a7), .string (strOf a8)] 9] [] w) :
    Ctr Tryz.prog 145 [.slice (some ⟨g, 0, none⟩) 8 8, .string ⟨#[32]⟩] w M I (fun _ : Unit => .string (strOf (Lib.join [a1, a2, a3, a4, a5, a6, a7, a8] [32]))) (fun _ => True) (fun _ => []) (fun _ => []) := by
  have e : ([strOf a1, strOf a2, strOf a3, strOf a4, strOf a5, strOf a6, strOf a7, strOf a8].map (·.data.toList)) = [a1, a2, a3, a4, a5, a6, a7, a8] := by simp only [List.map_cons, List.map_nil, strOf_data]
  have h := joinS g 8 8 [strOf a1, strOf a2, strOf a3, strOf a4, strOf a5, strOf a6, strOf a7, strOf a8] rfl (by decide) (by decide) ⟨#[32]⟩ (by rw [e]; exact hlen) w M I H
  rw [e] at h
  exact h.imp fun a w' hφ hh => ⟨(), rfl, trivial, Hp.keep hh⟩
theorem lv_strOf (k : Int) : lvName k = strOf (bsL (lvName k)) := (strOf_of _).symm
theorem sp_strOf (k : Int) : spName k = strOf (bsL (spName k)) := (strOf_of _).symm
theorem name_len (k : Int) : (bsL (lvName k)).length ≤ 10 ∧ (bsL (spName k)).length ≤ 10 := by
  unfold bsL lvName spName
  constructor
  · split
    · decide
    · split <;> decide
  · split
    · decide
    · split <;> decide
theorem join_len (c : UInt8) : ∀ (l : List (List UInt8)), (∀ x, x ∈ l → x.length ≤ 30) → (Lib.join l [c]).length ≤ 31 * l.length
  | [], _ => by simp [Lib.join, List.intercalate]
  | [a], h => by
    rw [join_one]
    have := h a List.mem_cons_self
    simp; omega
  | a :: b :: l, h => by
    rw [join_cons, List.length_append, List.length_cons]
    have h1 := h a List.mem_cons_self
    have h2 := join_len c (b :: l) fun x hx => h x (List.mem_cons_of_mem _ hx)
    simp only [List.length_cons] at h2 ⊢
    omega
theorem words_len (t : Tm) (hin : TmIn t) {y m d : Int} (hd : Dat y m d) : (Lib.join (tmWords t (datL y m d)) [32]).length ≤ 248 := by
  refine join_len 32 _ fun x hx => ?_
  unfold tmWords at hx
  simp only [List.mem_cons, List.not_mem_nil, or_false] at hx
  have hi : ∀ n, inK .i64 n → (Lib.itoa n).length ≤ 30 := fun n h => Nat.le_trans (Lib.itoa_length_le n h.1 h.2) (by decide)
  have hp : inK .i64 t.parts := ⟨by have := hin.parts.1; simp only [kLo] at this ⊢; omega, by have := hin.parts.2; simp only [kHi] at this ⊢; omega⟩
  rcases hx with h | h | h | h | h | h | h | h <;> rw [h]
  · exact Nat.le_trans (name_len t.kind).1 (by decide)
  · exact Nat.le_trans (coin_len _ hin.prin) (by decide)
  · exact hi _ hp
  · exact Nat.le_trans (name_len t.basis).2 (by decide)
  · exact hi _ hin.months
  · rw [dat_length hd]; decide
  · exact Nat.le_trans (coin_len _ hin.fee) (by decide)
  · exact hi _ hin.grace
theorem itoaW (n v : Int) (hv : v = n) (h : inK .i64 n) (w : World) (M I : BS) (H : Hp ⟨w, M, I⟩ [] [LibF] w) :
    Ctr Tryz.prog 146 [.int .i64 v] w M I (fun _ : Unit => .string (strOf (Lib.itoa n))) (fun _ => True) (fun _ => []) (fun _ => []) := by
  rw [hv]; exact itoa n h w M I H
theorem levelNameL (k : Int) : CB 143 [.int .u8 k] (.string (strOf (bsL (lvName k)))) := by rw [← lv_strOf]; exact levelName k
theorem spanNameL (k : Int) : CB 144 [.int .u8 k] (.string (strOf (bsL (spName k)))) := by rw [← sp_strOf]; exact spanName k
set_option maxHeartbeats 4000000 in
set_option maxRecDepth 20000 in
/-- Terms in words. -/
theorem tmText (t : Tm) (hin : TmIn t) (ht : tmB t = true) (ok : TmOk t) (w : World) (M I : BS) (H : Hp ⟨w, M, I⟩ [] [LibF] w) :
    Ctr Tryz.prog 84 [tmV t] w M I (fun s : ByteArray => .string s) (fun s => TmT t s) (fun _ => []) (fun _ => []) := by
  have hp : inK .i64 t.parts := ⟨by have := hin.parts.1; simp only [kLo] at this ⊢; omega, by have := hin.parts.2; simp only [kHi] at this ⊢; omega⟩
  have hst := ok.start
  have hdst : dayB t.start = true := by simp only [dayB, Bool.and_eq_true, decide_eq_true_eq]; omega
  refine Exe.of_ev tok Tryz.call84 Tryz.func84 rfl rfl rfl ?_
  refine box_as H (tmC t) rfl fun b w1 H1 => ?_
  refine load_rule tok H1 (v := tmV t) rfl ?_
  refine call_rule H1 (fun M I _ h => (show Ctr Tryz.prog 85 [tmV t] _ M I (fun _ : Unit => .bool true) (fun _ => True) (fun _ => []) (fun _ => []) from ht ▸ termsRight t _ M I h)) fun _ w2 _ H2 => ?_
  have H2 : Hp ⟨w, M, I⟩ [blk b (tmC t) 28] [LibF] w2 := Hp.keep H2
  refine draw_rule (A := []) tok tdr H2 [0, 1, 2, 3, 4, 5, 6, 7, 8, 9, 10, 11, 12, 13, 14, 15, 16, 17, 18, 19, 20, 21, 22, 23, 24, 25, 26, 27, 28, 29] [0, 1, 3, 0, 8, 31, 0, 64, 192, 448, 1023, 0, 2048, 6144, 16383, 0, 32768, 131071, 0, 262144, 1048575, 0, 2097152, 8388607, 0, 16777216, 67108863, 134217727, 268435455, 536870911] rfl ?_
  refine pass_rule _ (fun w h => load_rule tok h (v := .int .u8 t.kind) rfl ⟨rfl, rfl⟩) ?_
  refine imp_rule (fun X wx h => call_rule h (fun M I _ h => levelNameL t.kind _ M I h) fun _ w1 _ H1 => imp_done H1 ?_)
  refine pass_rule _ (fun w h => load_rule tok h (v := .int .i64 t.prin) rfl ⟨rfl, rfl⟩) ?_
  refine imp_rule (fun X wx h => call_rule h (fun M I _ h => coinText t.prin hin.prin _ M I h) fun _ w1 _ H1 => imp_done H1 ?_)
  refine pass_rule _ (fun w h => load_rule tok h (v := .int .u32 t.parts) rfl ⟨rfl, rfl⟩) ?_
  refine imp_rule (fun X wx h => call_rule h (fun M I _ h => itoaW t.parts _ (wrap_id hp) hp _ M I h) fun _ w1 _ H1 => imp_done H1 ?_)
  refine pass_rule _ (fun w h => load_rule tok h (v := .int .u8 t.basis) rfl ⟨rfl, rfl⟩) ?_
  refine imp_rule (fun X wx h => call_rule h (fun M I _ h => spanNameL t.basis _ M I h) fun _ w1 _ H1 => imp_done H1 ?_)
  refine pass_rule _ (fun w h => load_rule tok h (v := .int .i64 t.months) rfl ⟨rfl, rfl⟩) ?_
  refine imp_rule (fun X wx h => call_rule h (fun M I _ h => itoa t.months hin.months _ M I h) fun _ w1 _ H1 => imp_done H1 ?_)
  refine pass_rule _ (fun w h => load_rule tok h (v := .int .i32 t.start) rfl ⟨rfl, rfl⟩) ?_
  refine imp_rule (fun X wx h => call_rule h (fun M I _ h => dayText t.start hdst _ M I h) fun a w1 ha H1 => imp_done H1 ?_)
  refine pass_rule _ (fun w h => load_rule tok h (v := .int .i64 t.fee) rfl ⟨rfl, rfl⟩) ?_
  refine imp_rule (fun X wx h => call_rule h (fun M I _ h => coinText t.fee hin.fee _ M I h) fun _ w1 _ H1 => imp_done H1 ?_)
  refine pass_rule _ (fun w h => load_rule tok h (v := .int .i64 t.grace) rfl ⟨rfl, rfl⟩) ?_
  refine imp_rule (fun X wx h => call_rule h (fun M I _ h => itoa t.grace hin.grace _ M I h) fun _ w1 _ H1 => imp_done H1 ?_)
  refine fresh_slice tok [.string (strOf (bsL (lvName t.kind))), .string (strOf (coinL t.prin)), .string (strOf (Lib.itoa t.parts)), .string (strOf (bsL (spName t.basis))), .string (strOf (Lib.itoa t.months)), .string (strOf (datL a.1 a.2.1 a.2.2)), .string (strOf (coinL t.fee)), .string (strOf (Lib.itoa t.grace))] rfl rfl rfl rfl rfl rfl rfl fun g => ?_
  refine imp_rule (fun X wx h => call_rule h (fun M I _ h => join8 g (bsL (lvName t.kind)) (coinL t.prin) (Lib.itoa t.parts) (bsL (spName t.basis)) (Lib.itoa t.months) (datL a.1 a.2.1 a.2.2) (coinL t.fee) (Lib.itoa t.grace) (Nat.le_trans (words_len t hin ha.1) (by decide)) _ M I h) fun _ w1 _ H1 => imp_done H1 ?_)
  refine done_rule fun w4 H4 => ?_
  exact Exists.intro (strOf (Lib.join (tmWords t (datL a.1 a.2.1 a.2.2)) [32])) (And.intro rfl (And.intro ⟨a.1, a.2.1, a.2.2, ha.1, ha.2, rfl⟩ (Hp.keep H4)))
theorem tmTextNo (t : Tm) (ht : tmB t = false) (w : World) (M I : BS) (H : Hp ⟨w, M, I⟩ [] [] w) :
    Ctr Tryz.prog 84 [tmV t] w M I (fun _ : Unit => .string ⟨#[]⟩) (fun _ => True) (fun _ => []) (fun _ => []) := by
  refine Exe.of_ev tok Tryz.call84 Tryz.func84 rfl rfl rfl ?_
  refine box_as H (tmC t) rfl fun b w1 H1 => ?_
  refine load_rule tok H1 (v := tmV t) rfl ?_
  refine call_rule H1 (fun M I _ h => (show Ctr Tryz.prog 85 [tmV t] _ M I (fun _ : Unit => .bool false) (fun _ => True) (fun _ => []) (fun _ => []) from ht ▸ termsRight t _ M I h)) fun _ w2 _ H2 => ?_
  exact Exists.intro () (And.intro rfl (And.intro trivial (Hp.keep H2)))
end Go.Proofs.YtjlfjjgjghdokaaGreatDoor
/- Terms are read of words: what the readers of words say. -/
set_option linter.unusedVariables false
namespace Go.Proofs.YtjlfjjgjghdokaaGreatDoor
open Go Go.Proofs Go.Wk Go.Pl
theorem coin_neg {a c : Int} (ha : a < 0) (hc : 0 ≤ c) : coinL c ≠ coinL a := fun e => by
  rw [coinL_pos hc] at e
  unfold coinL at e
  rw [if_pos ha] at e
  cases h : cQ c with
  | nil => exact cQ_ne c h
  | cons x r =>
    have hx := cQ_dig c x (by rw [h]; exact List.mem_cons_self)
    rw [h] at e
    injection e with e1 _
    rw [e1] at hx
    cases hx
theorem CoinRd.of {c : Int} {a : Int × Er} (h0 : 0 ≤ c) (h1 : c ≤ 9223372036854775807) (h : CoinRd (coinL c) a) : a = (c, none) := by
  rcases h with ⟨e1, e2, e3⟩ | ⟨_, _, h⟩
  · have hn : 0 ≤ a.1 := by
      rcases Int.lt_or_le a.1 0 with hl | hl
      · exact absurd e2 (coin_neg hl h0)
      · exact hl
    have e := coin_inj h0 h1 hn e3.2 e2
    cases a
    simp only at e1 e
    rw [e1, e]
  · exact absurd rfl (h c h0 h1)
/-- A parsed number without a sign and its error. -/
def UNumRd (l : List UInt8) (a : Int × Er) : Prop :=
  match Lib.parseUintB 32 l with
  | .ok u => a = ((u : Int), none)
  | _ => a.2.isSome = true
@[reducible] def auV (a : Int × Er) : Value := .tuple #[.int .u64 a.1, erV a.2]
theorem parseUE (l : List UInt8) (hs : l.length ≤ 281474976710656) (w : World) (M I : BS) (H : Hp ⟨w, M, I⟩ [] [LibF] w) :
    Ctr Tryz.prog 78 [.string (strOf l), .int .i64 10, .int .i64 32] w M I auV (UNumRd l) (fun _ => []) (fun _ => []) := by
  refine (parseU32 (strOf l) (by rw [strOf_size]; exact hs) w M I H).imp fun a w' hφ hh => ?_
  rw [strOf_data] at hφ
  unfold UNumRd
  cases a with
  | mk v o =>
    cases o with
    | none =>
      refine ⟨((v : Int), none), rfl, ?_, hh⟩
      cases h : Lib.parseUintB 32 l with
      | ok u =>
        rw [h] at hφ
        have e : (v, (none : Option Nat)) = (u, none) := hφ
        have e2 : v = u := congrArg Prod.fst e
        show ((v : Int), (none : Er)) = ((u : Int), none)
        rw [e2]
      | range => rw [h] at hφ; exact absurd hφ.2 (by simp)
      | _ => rw [h] at hφ; exact absurd hφ.2 (by simp)
    | some N =>
      refine ⟨((v : Int), some (326, .pointer (some ⟨N, 0, none⟩))), rfl, ?_, hh⟩
      cases h : Lib.parseUintB 32 l with
      | ok u => rw [h] at hφ; cases hφ
      | range => rfl
      | _ => rfl
theorem atoi_in {l : List UInt8} {v : Int} (h : Lib.atoiAll l = .ok v) : inK .i64 v := by
  cases l with
  | nil => cases h
  | cons c r =>
    unfold Lib.atoiAll at h
    simp only at h
    split at h
    · cases h
    · cases h
    · split at h
      · cases h
      · split at h
        · cases h
        · injection h with h
          rw [← h]
          split
          · exact ⟨by show (-9223372036854775808 : Int) ≤ _; omega, by show _ ≤ (9223372036854775807 : Int); omega⟩
          · exact ⟨by show (-9223372036854775808 : Int) ≤ _; omega, by show _ ≤ (9223372036854775807 : Int); omega⟩
theorem parseM_le : ∀ (l : List UInt8) (M acc u : Nat), acc ≤ M → Lib.parseUintM M acc l = .ok u → u ≤ M
  | [], M, acc, u, h, e => by injection e with e; omega
  | c :: r, M, acc, u, h, e => by
    rw [Lib.parseUintM] at e
    split at e
    · split at e
      · cases e
      · split at e
        · cases e
        · exact parseM_le r M _ u (by omega) e
    · cases e
theorem u32_in {l : List UInt8} {u : Nat} (h : Lib.parseUintB 32 l = .ok u) : u ≤ 4294967295 := by
  unfold Lib.parseUintB at h
  split at h
  · cases h
  · exact parseM_le l _ 0 u (by omega) h
theorem NumRd.ok {l : List UInt8} {a : Int × Er} (h : NumRd l a) (he : a.2 = none) : Lib.atoiAll l = .ok a.1 := by
  unfold NumRd at h
  cases hq : Lib.atoiAll l with
  | ok v => rw [hq] at h; have h : a = (v, none) := h; rw [h]
  | range => rw [hq] at h; have h : a.2.isSome = true := h; rw [he] at h; cases h
  | _ => rw [hq] at h; have h : a.2.isSome = true := h; rw [he] at h; cases h
theorem NumRd.of {n : Int} {a : Int × Er} (h0 : 0 ≤ n) (h1 : n < 9223372036854775808) (h : NumRd (Lib.itoa n) a) : a = (n, none) := by
  unfold NumRd at h
  rw [itoa_nat h0, atoi_num _ (by omega)] at h
  have h : a = ((n.toNat : Int), none) := h
  rw [h]
  congr 1
  omega
theorem UNumRd.of {n : Int} {a : Int × Er} (h0 : 0 ≤ n) (h1 : n < 4294967296) (h : UNumRd (Lib.itoa n) a) : a = (n, none) := by
  unfold UNumRd at h
  rw [itoa_nat h0, u32_num _ (by omega)] at h
  have h : a = ((n.toNat : Int), none) := h
  rw [h]
  congr 1
  omega
theorem UNumRd.ok {l : List UInt8} {a : Int × Er} (h : UNumRd l a) (he : a.2 = none) : 0 ≤ a.1 ∧ a.1 ≤ 4294967295 := by
  unfold UNumRd at h
  cases hq : Lib.parseUintB 32 l with
  | ok v => rw [hq] at h; have h : a = ((v : Int), none) := h; rw [h]; have := u32_in hq; exact ⟨by simp, by simp; omega⟩
  | range => rw [hq] at h; have h : a.2.isSome = true := h; rw [he] at h; cases h
  | _ => rw [hq] at h; have h : a.2.isSome = true := h; rw [he] at h; cases h
theorem DayRd.of {n : Int} {s : ByteArray} {a : Int × Er} (hn : DayT n s) (h : DayRd s a) : a = (n, none) := by
  rcases h with ⟨e1, e2, _⟩ | ⟨_, _, h⟩
  · have e := e2.inj hn
    cases a
    simp only at e1 e
    rw [e1, e]
  · exact absurd hn (h n)
/-- What the readers say of eight words. -/
structure RdW (l0 l1 l2 l3 l4 l5 l6 l7 : List UInt8) (a1 a2 a4 a5 a6 a7 : Int × Er) : Prop where
  h1 : CoinRd l1 a1
  h2 : UNumRd l2 a2
  h4 : NumRd l4 a4
  h5 : DayRd (strOf l5) a5
  h6 : CoinRd l6 a6
  h7 : NumRd l7 a7
def rdT (l0 l3 : List UInt8) (a1 a2 a4 a5 a6 a7 : Int × Er) : Tm := ⟨lvKind (strOf l0), a1.1, IntKind.u32.wrap a2.1, spBasis (strOf l3), a4.1, a5.1, a6.1, a7.1⟩
theorem eqS_data (a b : ByteArray) : eqS a b = decide (a.data.toList = b.data.toList) := by
  unfold eqS
  rw [Lib.toList_data, Lib.toList_data]
  exact (Bool.beq_eq_decide_eq _ _)
theorem lvKind_of {k : Int} (h : k = 1 ∨ k = 2) : lvKind (strOf (bsL (lvName k))) = k := by
  rw [← lv_strOf]
  unfold lvKind
  simp only [eqS_data]
  rcases h with rfl | rfl <;> decide
theorem spBasis_of {k : Int} (h : k = 1 ∨ k = 2) : spBasis (strOf (bsL (spName k))) = k := by
  rw [← sp_strOf]
  unfold spBasis
  simp only [eqS_data]
  rcases h with rfl | rfl <;> decide
theorem rd_of {t : Tm} (ok : TmOk t) (hin : TmIn t) {y m d : Int} (hD : Dat y m d) (hn : numD y m d = t.start) {l0 l1 l2 l3 l4 l5 l6 l7 : List UInt8} {a1 a2 a4 a5 a6 a7 : Int × Er}
    (h : RdW l0 l1 l2 l3 l4 l5 l6 l7 a1 a2 a4 a5 a6 a7) (e : [l0, l1, l2, l3, l4, l5, l6, l7] = tmWords t (datL y m d)) :
    a1.2 = none ∧ a2.2 = none ∧ a4.2 = none ∧ a5.2 = none ∧ a6.2 = none ∧ a7.2 = none ∧ rdT l0 l3 a1 a2 a4 a5 a6 a7 = t := by
  unfold tmWords at e
  simp only [List.cons.injEq, and_true] at e
  obtain ⟨e0, e1, e2, e3, e4, e5, e6, e7⟩ := e
  subst e0 e1 e2 e3 e4 e5 e6 e7
  have b1 := ok.prin
  have b2 := ok.months
  have b3 := ok.fee
  have b4 := ok.grace
  have b5 := ok.parts
  have b6 : 0 ≤ t.parts := hin.parts.1
  have r1 := CoinRd.of (by omega) (by omega) h.h1
  have r2 := UNumRd.of b6 (by omega) h.h2
  have r4 := NumRd.of (by omega) (by omega) h.h4
  have r5 := DayRd.of ⟨y, m, d, hD, hn, rfl⟩ h.h5
  have r6 := CoinRd.of (by omega) (by omega) h.h6
  have r7 := NumRd.of (by omega) (by omega) h.h7
  rw [r1, r2, r4, r5, r6, r7]
  refine ⟨rfl, rfl, rfl, rfl, rfl, rfl, ?_⟩
  unfold rdT
  rw [lvKind_of ok.kind, spBasis_of ok.basis]
  have hw : IntKind.u32.wrap t.parts = t.parts := wrap_id hin.parts
  simp only [hw]
theorem lvKind_in (s : ByteArray) : inK .u8 (lvKind s) := by
  unfold lvKind
  split
  · exact ⟨by decide, by decide⟩
  · split <;> exact ⟨by decide, by decide⟩
theorem spBasis_in (s : ByteArray) : inK .u8 (spBasis s) := by
  unfold spBasis
  split
  · exact ⟨by decide, by decide⟩
  · split <;> exact ⟨by decide, by decide⟩
theorem rd_in {l0 l1 l2 l3 l4 l5 l6 l7 : List UInt8} {a1 a2 a4 a5 a6 a7 : Int × Er} (h : RdW l0 l1 l2 l3 l4 l5 l6 l7 a1 a2 a4 a5 a6 a7)
    (n1 : a1.2 = none) (n4 : a4.2 = none) (n5 : a5.2 = none) (n6 : a6.2 = none) (n7 : a7.2 = none) : TmIn (rdT l0 l3 a1 a2 a4 a5 a6 a7) := by
  have c1 : ∀ (l : List UInt8) (a : Int × Er), CoinRd l a → a.2 = none → inK .i64 a.1 := fun l a h hn => by
    rcases h with ⟨_, _, e3⟩ | ⟨e, _, _⟩
    · exact e3
    · rw [hn] at e; cases e
  refine ⟨lvKind_in _, c1 _ _ h.h1 n1, wrap_in _ _, spBasis_in _, atoi_in (h.h4.ok n4), ?_, c1 _ _ h.h6 n6, atoi_in (h.h7.ok n7)⟩
  rcases h.h5 with ⟨_, _, e3⟩ | ⟨e, _, _⟩
  · simp only [dayB, Bool.and_eq_true, decide_eq_true_eq] at e3
    exact ⟨by show (-2147483648 : Int) ≤ a5.1; omega, by show a5.1 ≤ (2147483647 : Int); omega⟩
  · rw [n5] at e; cases e
/-- The pieces are no longer than the whole. -/
theorem splitK_le (sep : List UInt8) : ∀ (k : Nat) (s x : List UInt8), x ∈ Lib.splitK sep 0 k s → x.length ≤ s.length
  | 0, s, x, h => by rw [List.mem_singleton.1 h]; exact Nat.le_refl _
  | k + 1, s, x, h => by
    unfold Lib.splitK at h
    split at h
    · rw [List.mem_singleton.1 h]; exact Nat.le_refl _
    · rcases List.mem_cons.1 h with h | h
      · rw [h, List.length_take]; omega
      · have := splitK_le sep k _ x h
        rw [List.length_drop] at this
        omega
theorem split8 (l : List UInt8) (hs : l.length < 4294967281) (l0 l1 l2 l3 l4 l5 l6 l7 : List UInt8) (h : Lib.splitK [32] 0 (Lib.count l [32]) l = [l0, l1, l2, l3, l4, l5, l6, l7]) (h7 : Lib.count l [32] = 7) (w : World) (M I : BS) (H : Hp ⟨w, M, I⟩ [] [LibF] w) :
    Ctr Tryz.prog 76 [.string (strOf l), .string ⟨#[32]⟩] w M I (fun g : Nat => .slice (some ⟨g, 0, none⟩) 8 8) (fun _ => True) (fun g => [blk g [.string (strOf l0), .string (strOf l1), .string (strOf l2), .string (strOf l3), .string (strOf l4), .string (strOf l5), .string (strOf l6), .string (strOf l7)] 9]) (fun _ => []) := by
  have hd : Lib.countB (strOf l) ⟨#[32]⟩ = 7 := by
    show Lib.count (strOf l).data.toList [32] = 7
    rw [strOf_data]; exact h7
  have hb : Lib.splitB ⟨#[32]⟩ 0 7 (strOf l) = [strOf l0, strOf l1, strOf l2, strOf l3, strOf l4, strOf l5, strOf l6, strOf l7] := by
    have e := Lib.splitB_data ⟨#[32]⟩ 0 7 (strOf l)
    rw [strOf_data] at e
    have e2 : Lib.splitK [32] 0 7 l = [l0, l1, l2, l3, l4, l5, l6, l7] := by rw [← h, h7]
    have e3 := e.trans e2
    have e4 := congrArg (List.map strOf) e3
    rw [List.map_map] at e4
    have e5 : (strOf ∘ fun x : ByteArray => x.data.toList) = id := by funext x; exact strOf_of x
    rw [e5, List.map_id] at e4
    exact e4
  have hc := splitS (strOf l) ⟨#[32]⟩ (by rw [strOf_size]; exact hs) (by decide) w M I H
  rw [hd, hb] at hc
  exact hc
theorem splitN (l : List UInt8) (hs : l.length < 4294967281) (n : Nat) (hn : Lib.count l [32] = n) (w : World) (M I : BS) (H : Hp ⟨w, M, I⟩ [] [LibF] w) :
    Ctr Tryz.prog 76 [.string (strOf l), .string ⟨#[32]⟩] w M I (fun g : Nat => .slice (some ⟨g, 0, none⟩) (n + 1) (n + 1)) (fun _ => True) (fun _ => []) (fun _ => []) := by
  have hd : Lib.countB (strOf l) ⟨#[32]⟩ = n := by
    show Lib.count (strOf l).data.toList [32] = n
    rw [strOf_data]; exact hn
  have hc := splitS (strOf l) ⟨#[32]⟩ (by rw [strOf_size]; exact hs) (by decide) w M I H
  rw [hd] at hc
  exact hc.imp fun a w' hφ hh => ⟨a, rfl, trivial, hh.dropAll⟩
theorem joinE0 (A : Option Addr) (n c : Nat) (xs : List Er) (hxn : xs.length ≤ 100) (h0 : cntE xs = 0) (w : World) (M I : BS) (H : Hp ⟨w, M, I⟩ [] [Sl errR (.slice A n c) xs] w) :
    Ctr Tryz.prog 83 [.slice A n c] w M I (fun _ : Unit => .nilIface) (fun _ => True) (fun _ => []) (fun _ => []) :=
  (joinAny A n c xs hxn w M I H).imp fun a w' hφ hh => ⟨(), by rw [hφ.2 h0]; rfl, trivial, hh⟩
theorem joinE1 (A : Option Addr) (n c : Nat) (xs : List Er) (hxn : xs.length ≤ 100) (h0 : cntE xs ≠ 0) (w : World) (M I : BS) (H : Hp ⟨w, M, I⟩ [] [Sl errR (.slice A n c) xs] w) :
    Ctr Tryz.prog 83 [.slice A n c] w M I (fun b : Nat => .iface 261 (.pointer (some ⟨b, 0, none⟩))) (fun _ => True) (fun _ => []) (fun _ => []) :=
  (joinAny A n c xs hxn w M I H).imp fun a w' hφ hh => by
    cases a with
    | none => exact absurd (hφ.1 rfl) h0
    | some b => exact ⟨b, rfl, trivial, hh⟩
theorem erV_cells (x : Er) : (erV x).cells.toList = [erV x] := by cases x <;> rfl
theorem seq6 (x0 x1 x2 x3 x4 x5 : Er) : seqParts 1 0 [(0, erV x0), (1, erV x1), (2, erV x2), (3, erV x3), (4, erV x4), (5, erV x5)] = some [erV x0, erV x1, erV x2, erV x3, erV x4, erV x5] := by
  simp only [seqParts, erV_cells]
  rfl
end Go.Proofs.YtjlfjjgjghdokaaGreatDoor
/- Terms are read of words: the walk. -/
set_option linter.unusedVariables false
namespace Go.Proofs.YtjlfjjgjghdokaaGreatDoor
open Go Go.Proofs Go.Wk Go.Pl
@[reducible] def tm0 : Tm := ⟨0, 0, 0, 0, 0, 0, 0, 0⟩
/-- What a reader of terms says. -/
def TmRd (l : List UInt8) (a : Tm × Er) : Prop :=
  (a.2 = none ∧ TmOk a.1 ∧ TmIn a.1 ∧ TmT a.1 (strOf l)) ∨ (a.2 = erN 15 ∧ a.1 = tm0 ∧ ∀ t, TmOk t → TmIn t → ¬ TmT t (strOf l))
@[reducible] def teV (a : Tm × Er) : Value := .tuple #[tmV a.1, erV a.2]
theorem tm_split {t : Tm} (ok : TmOk t) (hin : TmIn t) {l : List UInt8} (h : TmT t (strOf l)) : Lib.count l [32] = 7 ∧ ∃ y m d, Dat y m d ∧ numD y m d = t.start ∧ Lib.splitK [32] 0 (Lib.count l [32]) l = tmWords t (datL y m d) := by
  obtain ⟨y, m, d, hD, hn, hs⟩ := h
  have e := strOf_inj hs
  have h0 : 0 ≤ t.parts := hin.parts.1
  rw [e]
  exact ⟨words_count ok h0 hD, y, m, d, hD, hn, words_split ok h0 hD⟩
theorem tmReadNo (l : List UInt8) (hs : l.length < 4294967281) (n : Nat) (hn : Lib.count l [32] = n) (h8 : n ≠ 7) (w : World) (M I : BS) (H : Hp ⟨w, M, I⟩ [] [LibF] w) :
    Ctr Tryz.prog 39 [.string (strOf l)] w M I teV (TmRd l) (fun _ => []) (fun _ => []) := by
  refine Exe.of_ev tok Tryz.call39 Tryz.func39 rfl rfl rfl ?_
  refine alloc_as tok H (tmC tm0) rfl rfl rfl fun r w1 H1 => ?_
  refine call_rule H1 (fun M I _ h => splitN l hs n hn _ M I h) fun g w2 _ H2 => ?_
  refine br (fun q => ?_) (fun q => ?_)
  · refine store_as tok H2 (tmC tm0) rfl rfl rfl rfl rfl fun w3 H3 => ?_
    refine Exists.intro ⟨r, 0, none⟩ (Exists.intro (tmV tm0) (And.intro rfl (And.intro (Hp.ld (T := tb) tok H3 rfl) ?_)))
    exact Exists.intro (tm0, erN 15) (And.intro rfl (And.intro (.inr ⟨rfl, rfl, fun t ok hin h => h8 (hn ▸ (tm_split ok hin h).1)⟩) (Hp.keep H3)))
  · have q : (!(((n + 1 : Nat) : Int) == 8)) = false := q
    have e : (((n + 1 : Nat) : Int) == 8) = true := by simpa using q
    have e := eq_of_beq e
    exact absurd (by omega) h8
set_option maxHeartbeats 4000000 in
set_option maxRecDepth 20000 in
theorem tmRead8 (l : List UInt8) (hs : l.length < 4294967281) (l0 l1 l2 l3 l4 l5 l6 l7 : List UInt8) (hsp : Lib.splitK [32] 0 (Lib.count l [32]) l = [l0, l1, l2, l3, l4, l5, l6, l7]) (h7 : Lib.count l [32] = 7) (w : World) (M I : BS) (hM : ∀ b, ¬ M b) (H : Hp ⟨w, M, I⟩ [] [LibF] w) :
    Ctr Tryz.prog 39 [.string (strOf l)] w M I teV (TmRd l) (fun _ => []) (fun _ => []) := by
  have hle : ∀ x, x ∈ [l0, l1, l2, l3, l4, l5, l6, l7] → x.length ≤ l.length := fun x hx => by rw [← hsp] at hx; exact splitK_le _ _ _ _ hx
  have e1 := hle l1 (by simp)
  have e2 := hle l2 (by simp)
  have e4 := hle l4 (by simp)
  have e6 := hle l6 (by simp)
  have e7 := hle l7 (by simp)
  have hne : l ≠ [] := fun e => by rw [e] at h7; cases h7
  refine Exe.of_ev tok Tryz.call39 Tryz.func39 rfl rfl rfl ?_
  refine alloc_as tok H (tmC tm0) rfl rfl rfl fun r w1 H1 => ?_
  refine call_rule H1 (fun M I _ hh => split8 l hs l0 l1 l2 l3 l4 l5 l6 l7 hsp h7 _ M I hh) fun g w2 _ H2 => ?_
  refine idx_own tok rfl rfl (by decide) (by decide) ?_
  refine load_rule tok H2 (v := .string (strOf l1)) rfl ?_
  refine call_rule H2 (fun M I _ h => coinRead l1 (by omega) _ M I h) fun a1 w3 r1 H3 => ?_
  refine idx_own tok rfl rfl (by decide) (by decide) ?_
  refine load_rule tok H3 (v := .string (strOf l2)) rfl ?_
  refine call_rule H3 (fun M I _ h => parseUE l2 (by omega) _ M I h) fun a2 w4 r2 H4 => ?_
  refine idx_own tok rfl rfl (by decide) (by decide) ?_
  refine load_rule tok H4 (v := .string (strOf l4)) rfl ?_
  refine call_rule H4 (fun M I _ h => atoiE l4 (by omega) _ M I h) fun a4 w5 r4 H5 => ?_
  refine idx_own tok rfl rfl (by decide) (by decide) ?_
  refine load_rule tok H5 (v := .string (strOf l5)) rfl ?_
  refine call_rule H5 (fun M I _ h => dayRead (strOf l5) _ M I h) fun a5 w6 r5 H6 => ?_
  refine idx_own tok rfl rfl (by decide) (by decide) ?_
  refine load_rule tok H6 (v := .string (strOf l6)) rfl ?_
  refine call_rule H6 (fun M I _ h => coinRead l6 (by omega) _ M I h) fun a6 w7 r6 H7 => ?_
  refine idx_own tok rfl rfl (by decide) (by decide) ?_
  refine load_rule tok H7 (v := .string (strOf l7)) rfl ?_
  refine call_rule H7 (fun M I _ h => atoiE l7 (by omega) _ M I h) fun a7 w8 r7 H8 => ?_
  have H8 : Hp ⟨w, M, I⟩ [blk g [.string (strOf l0), .string (strOf l1), .string (strOf l2), .string (strOf l3), .string (strOf l4), .string (strOf l5), .string (strOf l6), .string (strOf l7)] 9, blk r (tmC tm0) 28] [LibF] w8 := Hp.keep H8
  have R : RdW l0 l1 l2 l3 l4 l5 l6 l7 a1 a2 a4 a5 a6 a7 := ⟨r1, r2, r4, r5, r6, r7⟩
  refine draw_rule (A := []) tok tdr H8 [0, 1, 2, 3, 7, 8, 9, 10, 4, 5, 6, 11, 12, 13, 14, 15, 16, 17, 18] [0, 1, 3, 7, 0, 0, 32, 0, 128, 384, 911, 2031, 0, 0, 0, 0, 65535, 0, 262143] rfl ?_
  refine pass_rule _ (fun w h => idx_own tok rfl rfl (by decide) (by decide) ⟨rfl, rfl⟩) ?_
  refine pass_rule _ (fun w h => load_rule tok h (v := .string (strOf l0)) rfl ⟨rfl, rfl⟩) ?_
  refine imp_rule (fun X wx hx => call_rule hx (fun M I _ h => levelKind (strOf l0) _ M I h) fun _ w1 _ H1 => imp_done H1 ?_)
  refine pass_rule _ (fun w h => idx_own tok rfl rfl (by decide) (by decide) ⟨rfl, rfl⟩) ?_
  refine pass_rule _ (fun w h => load_rule tok h (v := .string (strOf l3)) rfl ⟨rfl, rfl⟩) ?_
  refine imp_rule (fun X wx hx => call_rule hx (fun M I _ h => spanBasis (strOf l3) _ M I h) fun _ w1 _ H1 => imp_done H1 ?_)
  refine fresh_alloc tok rfl rfl rfl fun b => ?_
  refine imp_rule (fun X wx hx => store_as tok hx (tmC (rdT l0 l3 a1 a2 a4 a5 a6 a7)) rfl rfl rfl rfl rfl fun w1 H1 => imp_done H1 ?_)
  refine done_rule fun w9 H9 => ?_
  refine slice_as tok H9 [erV a1.2, erV a2.2, erV a4.2, erV a5.2, erV a6.2, erV a7.2] rfl rfl rfl (seq6 a1.2 a2.2 a4.2 a5.2 a6.2 a7.2) rfl rfl fun g2 w10 H10 => ?_
  have H11 := H10.frzBlk (n := g2) errR [a1.2, a2.2, a4.2, a5.2, a6.2, a7.2] hM (by show 6 ≤ 9223372036854775807; decide) rfl (fun i x hx => ⟨(), trivial, by
    rcases i with _ | _ | _ | _ | _ | _ | i
    · injection hx with hx; rw [← hx]; rfl
    · injection hx with hx; rw [← hx]; rfl
    · injection hx with hx; rw [← hx]; rfl
    · injection hx with hx; rw [← hx]; rfl
    · injection hx with hx; rw [← hx]; rfl
    · injection hx with hx; rw [← hx]; rfl
    · simp at hx, rfl⟩)
  have HX : Hp ⟨w, M, I⟩ [blk b (tmC (rdT l0 l3 a1 a2 a4 a5 a6 a7)) 28, blk r (tmC tm0) 28] [Sl errR (.slice (some ⟨g2, 0, none⟩) 6 6) [a1.2, a2.2, a4.2, a5.2, a6.2, a7.2], LibF] w10 := Hp.keep (show Hp ⟨w, M, I⟩ [blk b (tmC (rdT l0 l3 a1 a2 a4 a5 a6 a7)) 28, blk g [.string (strOf l0), .string (strOf l1), .string (strOf l2), .string (strOf l3), .string (strOf l4), .string (strOf l5), .string (strOf l6), .string (strOf l7)] 9, blk r (tmC tm0) 28] [Sl errR (.slice (some ⟨g2, 0, none⟩) 6 6) [a1.2, a2.2, a4.2, a5.2, a6.2, a7.2], LibF] w10 from H11)
  have hcmp : ∀ t, TmOk t → TmIn t → TmT t (strOf l) → a1.2 = none ∧ a2.2 = none ∧ a4.2 = none ∧ a5.2 = none ∧ a6.2 = none ∧ a7.2 = none ∧ rdT l0 l3 a1 a2 a4 a5 a6 a7 = t := fun t ok hin ht => by
    obtain ⟨_, y, m, d, hD, hn, he⟩ := tm_split ok hin ht
    exact rd_of ok hin hD hn R (hsp.symm.trans he)
  have hz : cntE [a1.2, a2.2, a4.2, a5.2, a6.2, a7.2] = 0 ↔ ∀ x, x ∈ [a1.2, a2.2, a4.2, a5.2, a6.2, a7.2] → x = none := cntE_zero _
  have hzz : (∃ t, TmOk t ∧ TmIn t ∧ TmT t (strOf l)) → cntE [a1.2, a2.2, a4.2, a5.2, a6.2, a7.2] = 0 := fun ⟨t, ok, hin, ht⟩ => by
    obtain ⟨n1, n2, n4, n5, n6, n7, _⟩ := hcmp t ok hin ht
    rw [n1, n2, n4, n5, n6, n7]; rfl
  refine Or.elim (Classical.em (cntE [a1.2, a2.2, a4.2, a5.2, a6.2, a7.2] = 0)) (fun h0 => ?_) (fun h0 => ?_)
  · have hall := hz.1 h0
    have n1 := hall a1.2 (by simp)
    have n2 := hall a2.2 (by simp)
    have n4 := hall a4.2 (by simp)
    have n5 := hall a5.2 (by simp)
    have n6 := hall a6.2 (by simp)
    have n7 := hall a7.2 (by simp)
    have hin := rd_in R n1 n4 n5 n6 n7
    refine call_rule HX (fun M I _ h => joinE0 (some ⟨g2, 0, none⟩) 6 6 [a1.2, a2.2, a4.2, a5.2, a6.2, a7.2] (by show 6 ≤ 100; decide) h0 _ M I h) fun _ w11 _ H12 => ?_
    refine Exists.elim (⟨_, rfl⟩ : ∃ T, T = rdT l0 l3 a1 a2 a4 a5 a6 a7) fun T hT => ?_
    rw [← hT] at hin H12
    rw [← hT] at hcmp
    refine load_rule tok H12 (v := tmV T) (by rw [hT]; rfl) ?_
    refine Or.elim (Classical.em (tmB T = true)) (fun hb => ?_) (fun hb => ?_)
    · refine call_rule H12 (fun M I _ h => tmText T hin hb (tmB_iff.1 hb) _ M I h) fun s w12 hs' H13 => ?_
      refine br (fun q => ?_) (fun q => ?_)
      · have q : (!eqS s (strOf l)) = true := q
        refine store_as tok H13 (tmC tm0) rfl rfl rfl rfl rfl fun w13 H14 => ?_
        refine Exists.intro ⟨r, 0, none⟩ (Exists.intro (tmV tm0) (And.intro rfl (And.intro (Hp.ld (T := tb) tok H14 rfl) ?_)))
        refine Exists.intro (tm0, erN 15) (And.intro rfl (And.intro (.inr ⟨rfl, rfl, fun t ok hin2 h => ?_⟩) (Hp.keep H14)))
        have e := (hcmp t ok hin2 h).2.2.2.2.2.2
        rw [e] at hs'
        rw [hs'.uniq h, eqS_strOf, decide_eq_true rfl] at q
        cases q
      · have q : (!eqS s (strOf l)) = false := q
        have e : s = strOf l := by
          have h1 : eqS (strOf s.data.toList) (strOf l) = true := by rw [strOf_of]; simpa using q
          rw [eqS_strOf] at h1
          rw [← of_decide_eq_true h1, strOf_of]
        refine load_rule tok H13 (v := tmV T) rfl ?_
        refine store_as tok H13 (tmC T) rfl rfl rfl rfl rfl fun w13 H14 => ?_
        refine Exists.intro ⟨r, 0, none⟩ (Exists.intro (tmV T) (And.intro rfl (And.intro (Hp.ld (T := tb) tok H14 rfl) ?_)))
        exact Exists.intro (T, none) (And.intro rfl (And.intro (.inl ⟨rfl, tmB_iff.1 hb, hin, e ▸ hs'⟩) (Hp.keep H14)))
    · have hb : tmB T = false := by simpa using hb
      refine call_rule H12 (fun M I _ h => tmTextNo T hb _ M I h) fun _ w12 _ H13 => ?_
      refine br (fun q => ?_) (fun q => ?_)
      · refine store_as tok H13 (tmC tm0) rfl rfl rfl rfl rfl fun w13 H14 => ?_
        refine Exists.intro ⟨r, 0, none⟩ (Exists.intro (tmV tm0) (And.intro rfl (And.intro (Hp.ld (T := tb) tok H14 rfl) ?_)))
        refine Exists.intro (tm0, erN 15) (And.intro rfl (And.intro (.inr ⟨rfl, rfl, fun t ok hin2 h => ?_⟩) (Hp.keep H14)))
        have e := (hcmp t ok hin2 h).2.2.2.2.2.2
        rw [e, tmB_iff.2 ok] at hb
        cases hb
      · have q : (!eqS ⟨#[]⟩ (strOf l)) = false := q
        have h1 : eqS (strOf []) (strOf l) = true := by
          have : eqS ⟨#[]⟩ (strOf l) = true := by simpa using q
          exact this
        rw [eqS_strOf] at h1
        exact absurd (of_decide_eq_true h1).symm hne
  · refine call_rule HX (fun M I _ h => joinE1 (some ⟨g2, 0, none⟩) 6 6 [a1.2, a2.2, a4.2, a5.2, a6.2, a7.2] (by show 6 ≤ 100; decide) h0 _ M I h) fun _ w11 _ H12 => ?_
    refine store_as tok H12 (tmC tm0) rfl rfl rfl rfl rfl fun w13 H14 => ?_
    refine Exists.intro ⟨r, 0, none⟩ (Exists.intro (tmV tm0) (And.intro rfl (And.intro (Hp.ld (T := tb) tok H14 rfl) ?_)))
    exact Exists.intro (tm0, erN 15) (And.intro rfl (And.intro (.inr ⟨rfl, rfl, fun t ok hin2 h => h0 (hzz ⟨t, ok, hin2, h⟩)⟩) (Hp.keep H14)))
/-- Terms are read of words. -/
theorem tmRead (l : List UInt8) (hs : l.length < 4294967281) (w : World) (M I : BS) (hM : ∀ b, ¬ M b) (H : Hp ⟨w, M, I⟩ [] [LibF] w) :
    Ctr Tryz.prog 39 [.string (strOf l)] w M I teV (TmRd l) (fun _ => []) (fun _ => []) := by
  by_cases h7 : Lib.count l [32] = 7
  · have hlen : (Lib.splitK [32] 0 (Lib.count l [32]) l).length = 8 := by
      have e := Lib.splitB_data ⟨#[32]⟩ 0 7 (strOf l)
      have e2 := Lib.splitB_all ⟨#[32]⟩ (by decide) 0 7 (strOf l) (by show Lib.count (strOf l).data.toList [32] = 7; rw [strOf_data]; exact h7)
      rw [strOf_data] at e
      have e3 := congrArg List.length e
      rw [List.length_map, e2] at e3
      rw [h7]
      exact e3.symm
    obtain ⟨l0, l1, l2, l3, l4, l5, l6, l7, h⟩ : ∃ l0 l1 l2 l3 l4 l5 l6 l7, Lib.splitK [32] 0 (Lib.count l [32]) l = [l0, l1, l2, l3, l4, l5, l6, l7] := by
      match Lib.splitK [32] 0 (Lib.count l [32]) l, hlen with
      | [l0, l1, l2, l3, l4, l5, l6, l7], _ => exact ⟨l0, l1, l2, l3, l4, l5, l6, l7, rfl⟩
    exact tmRead8 l hs l0 l1 l2 l3 l4 l5 l6 l7 h h7 w M I hM H
  · exact tmReadNo l hs _ rfl h7 w M I H
end Go.Proofs.YtjlfjjgjghdokaaGreatDoor
/- The document's example of terms: the walk. -/
set_option linter.unusedVariables false
namespace Go.Wk
end Go.Wk
namespace Go.Proofs.YtjlfjjgjghdokaaGreatDoor
open Go Go.Proofs Go.Wk Go.Pl
theorem awD : Dat 2024 1 31 := datB_iff.1 (by decide)
theorem awDat (a b c : List UInt8) : datL 2024 1 31 = [50, 48, 50, 52, 45, 48, 49, 45, 51, 49] ∧ datL 2024 2 29 = [50, 48, 50, 52, 45, 48, 50, 45, 50, 57] := by
  constructor
  · simp [datL, padL, Lib.itoa, Lib.decDigits]
  · simp [datL, padL, Lib.itoa, Lib.decDigits]
end Go.Proofs.YtjlfjjgjghdokaaGreatDoor
