/- An amount is read of words: the walk. -/
import Derived.Test.YtgbmambkgcjhfaaGreatDoorD22
set_option linter.unusedVariables false
namespace Go.Proofs.YtgbmambkgcjhfaaGreatDoor
open Go Go.Proofs Go.Wk Go.Pl
/-- What a reader of amounts says: the amount whose words these are, or an error, and then they are no amount's. -/
def CoinRd (l : List UInt8) (a : Int × Er) : Prop :=
  (a.2 = none ∧ l = coinL a.1 ∧ inK .i64 a.1) ∨ (a.2.isSome = true ∧ a.1 = 0 ∧ ∀ c, 0 ≤ c → c ≤ 9223372036854775807 → l ≠ coinL c)
@[reducible] def adV (a : Int × Er) : Value := .tuple #[.int .i64 a.1, erV a.2]
@[reducible] def erN (c : Int) : Er := some (55, .int .i64 c)
theorem trimM (l : List UInt8) : CB 53 [.string (strOf l), .string ⟨#[45]⟩] (.string (strOf (Lib.trimPrefix l [45]))) := by
  have h := trimPrefix (strOf l) ⟨#[45]⟩
  rw [strOf_data] at h
  exact h
theorem cutD (l : List UInt8) (hs : l.length < 4294967281) (w : World) (M I : BS) (H : Hp ⟨w, M, I⟩ [] [LibF] w) :
    Ctr Tryz.prog 106 [.string (strOf l), .string ⟨#[46]⟩] w M I (fun _ : Unit => .tuple #[.string (strOf (Lib.cut l [46]).1), .string (strOf (Lib.cut l [46]).2.1), .bool (Lib.cut l [46]).2.2]) (fun _ => True) (fun _ => []) (fun _ => []) := by
  have h := cutS (strOf l) ⟨#[46]⟩ (by rw [strOf_size]; exact hs) w M I H
  rw [strOf_data] at h
  exact h
theorem cut_le (l sep : List UInt8) : (Lib.cut l sep).1.length ≤ l.length ∧ (Lib.cut l sep).2.1.length ≤ l.length := by
  unfold Lib.cut
  split
  · exact ⟨by rw [List.length_take]; omega, by rw [List.length_drop]; omega⟩
  · exact ⟨Nat.le_refl _, by simp⟩
theorem trim_le (l sep : List UInt8) : (Lib.trimPrefix l sep).length ≤ l.length := by
  unfold Lib.trimPrefix
  split
  · rw [List.length_drop]; omega
  · exact Nat.le_refl _
theorem cutY (l : List UInt8) (hs : l.length < 4294967281) (y : List UInt8 × List UInt8 × Bool) (hy : y = Lib.cut l [46]) (w : World) (M I : BS) (H : Hp ⟨w, M, I⟩ [] [LibF] w) :
    Ctr Tryz.prog 106 [.string (strOf l), .string ⟨#[46]⟩] w M I (fun _ : Unit => .tuple #[.string (strOf y.1), .string (strOf y.2.1), .bool y.2.2]) (fun _ => True) (fun _ => []) (fun _ => []) := by
  rw [hy]; exact cutD l hs w M I H
theorem trimY (l d : List UInt8) (hd : d = Lib.trimPrefix l [45]) : CB 53 [.string (strOf l), .string ⟨#[45]⟩] (.string (strOf d)) := by
  rw [hd]; exact trimM l
theorem toList_strOf (l : List UInt8) : (strOf l).toList = l := by rw [Lib.toList_data, strOf_data]
theorem noS_strOf (l : List UInt8) : noS (strOf l) = decide (l = []) := by
  unfold noS
  have e : ((⟨#[]⟩ : ByteArray).toList) = [] := toList_strOf []
  rw [toList_strOf, e]
  by_cases h : l = [] <;> simp [h]
theorem eqS_strOf (a b : List UInt8) : eqS (strOf a) (strOf b) = decide (a = b) := by
  unfold eqS
  rw [toList_strOf, toList_strOf]
  by_cases h : a = b <;> simp [h]
theorem bytesI_at {l : List UInt8} {i : Nat} {x : Int} (h : (bytesI (strOf l))[i]? = some x) : ∃ b, l[i]? = some b ∧ x = ((b.toNat : Nat) : Int) := by
  unfold bytesI at h
  rw [strOf_data, List.getElem?_map] at h
  obtain ⟨b, h1, h2⟩ := Option.map_eq_some_iff.1 h
  exact ⟨b, h1, h2.symm⟩
theorem dgI {b : UInt8} (h0 : ¬ ((b.toNat : Nat) : Int) < 48) (h1 : ¬ (57 : Int) < ((b.toNat : Nat) : Int)) : dgB b = true := by
  unfold dgB; simp; omega
theorem parse_two {w d p : List UInt8} (hd : d = Lib.trimPrefix w [45]) (hne : d ≠ []) (hdg : ∀ b, b ∈ d ++ p → dgB b = true) : (∃ v, Lib.parseIntB 64 (w ++ p) = .ok v) ∨ Lib.parseIntB 64 (w ++ p) = .range := by
  obtain ⟨neg, hw⟩ := trim_cases w
  rw [← hd] at hw
  have e : w ++ p = if neg = true then 45 :: (d ++ p) else d ++ p := by
    rw [hw]
    cases neg <;> simp
  have h := parse_dig (l := d ++ p) (by simp [hne]) hdg neg
  rw [← e] at h
  exact h
set_option maxHeartbeats 4000000 in
set_option maxRecDepth 20000 in
theorem coinRead (l : List UInt8) (hs : l.length < 4294967281) (w : World) (M I : BS) (H : Hp ⟨w, M, I⟩ [] [LibF] w) :
    Ctr Tryz.prog 56 [.string (strOf l)] w M I adV (CoinRd l) (fun _ => []) (fun _ => []) := by
  obtain ⟨pr, H⟩ := rangeGlob H
  obtain ⟨y, hy⟩ : ∃ y, y = Lib.cut l [46] := ⟨_, rfl⟩
  obtain ⟨d, hd⟩ : ∃ d, d = Lib.trimPrefix y.1 [45] := ⟨_, rfl⟩
  have hle := cut_le l [46]
  rw [← hy] at hle
  have hld : d.length ≤ y.1.length := by rw [hd]; exact trim_le _ _
  have hcoin : ∀ c, 0 ≤ c → l = coinL c → y.1 = cQ c ∧ y.2.1 = cR c ∧ y.2.2 = true ∧ d = cQ c := fun c h0 e => by
    have h1 : y = (cQ c, cR c, true) := by rw [hy, e]; exact coin_cut h0
    rw [hd, h1]
    exact ⟨rfl, rfl, rfl, trim_cQ c⟩
  have hno : ∀ (e : Er), e.isSome = true → (∀ c, 0 ≤ c → c ≤ 9223372036854775807 → l = coinL c → False) → CoinRd l (0, e) := fun e he h => .inr ⟨he, rfl, fun c h0 h1 e => h c h0 h1 e⟩
  refine Exe.of_ev tok Tryz.call56 Tryz.func56 rfl rfl rfl ?_
  refine call_rule H (fun M I _ h => cutY l hs y hy _ M I h) fun _ w1 _ H1 => ?_
  refine br (fun q => ?_) (fun q => ?_)
  · have q : (!y.2.2) = true := q
    exact Exists.intro (0, erN 15) (And.intro rfl (And.intro (hno _ rfl fun c h0 _ e => by rw [(hcoin c h0 e).2.2.1] at q; cases q) (Hp.keep H1)))
  have q : (!y.2.2) = false := q
  refine br (fun q2 => ?_) (fun q2 => ?_)
  · have q2 : (!(((strOf y.2.1).size : Int) == 2)) = true := q2
    exact Exists.intro (0, erN 15) (And.intro rfl (And.intro (hno _ rfl fun c h0 _ e => by rw [(hcoin c h0 e).2.1, strOf_size] at q2; cases q2) (Hp.keep H1)))
  have q2 : (!(((strOf y.2.1).size : Int) == 2)) = false := q2
  have hp2 : y.2.1.length = 2 := by
    have e : (((strOf y.2.1).size : Int) == 2) = true := by simpa using q2
    have e := eq_of_beq e
    rw [strOf_size] at e
    omega
  have hsz : (strOf (d ++ y.2.1)).size = (d ++ y.2.1).length := strOf_size _
  have hlen : (d ++ y.2.1).length = d.length + 2 := by rw [List.length_append, hp2]
  refine call_rule H1 (fun M I _ h => trimY y.1 d hd _ M I h) fun _ w2 _ H2 => ?_
  refine sadd_as (strOf (d ++ y.2.1)) (strOf_app _ _) (by rw [hsz]; omega) ?_
  refine convB_rule tok H2 rfl rfl rfl (by rw [hsz]; omega) fun g cp w3 H3 => ?_
  refine loop_rule tok (σ := Nat) 35175782154764 (fun i => [(33, .int .i64 (i : Int))]) (fun i w' => i ≤ (strOf (d ++ y.2.1)).size ∧ (∀ j b, j < i → (d ++ y.2.1)[j]? = some b → dgB b = true) ∧ Hp ⟨w, M, I⟩ [] [Sl (Go.Wk.intR .u8) (.slice (some ⟨g, 0, none⟩) (strOf (d ++ y.2.1)).size cp) (bytesI (strOf (d ++ y.2.1))), Glob 0 (.iface 276 (.pointer pr)), LibF] w') (fun i => (strOf (d ++ y.2.1)).size - i) 0 rfl rfl ⟨rfl, trivial⟩ ⟨Nat.zero_le _, fun j b h => absurd h (Nat.not_lt_zero _), Hp.keep H3⟩ ?_
  intro i j4 w4 hW
  have hi := hW.1
  have hdg := hW.2.1
  have H4 := hW.2.2
  refine brd (fun hlt => ?_) (fun hge => ?_)
  · have ew : IntKind.i64.wrap ((i : Int) + 1) = ((i + 1 : Nat) : Int) := w64 (by omega) (by omega)
    refine idx_rule tok H4 rfl rfl rfl (by omega) hlt fun eb eo x hx H5 => ?_
    have hx' : (bytesI (strOf (d ++ y.2.1)))[i]? = some x := by simpa using hx
    refine Exists.elim (bytesI_at hx') fun b hb => ?_
    refine ld1_rule tok H5 (v := fun _ => .int .u8 x) rfl rfl (fun _ => rfl) fun _ _ H6 => ?_
    have hbad : dgB b = false → ∀ c, 0 ≤ c → c ≤ 9223372036854775807 → l = coinL c → False := fun hf c h0 _ e => by
      have hc := hcoin c h0 e
      have hm := List.mem_of_getElem? hb.1
      rw [hc.2.1, hc.2.2.2] at hm
      rcases List.mem_append.1 hm with h | h
      · rw [cQ_dig c b h] at hf; cases hf
      · rw [cR_dig c b h] at hf; cases hf
    refine brd (fun h48 => ?_) (fun h48 => ?_)
    · exact Exists.intro (0, erN 15) (And.intro rfl (And.intro (hno _ rfl (hbad (by rw [hb.2] at h48; unfold dgB; simp; omega))) (Hp.keep H6)))
    refine brd (fun h57 => ?_) (fun h57 => ?_)
    · exact Exists.intro (0, erN 15) (And.intro rfl (And.intro (hno _ rfl (hbad (by rw [hb.2] at h57; unfold dgB; simp; omega))) (Hp.keep H6)))
    refine Exists.intro (i + 1) (And.intro ⟨congrArg (Value.int .i64) ew, trivial⟩ (And.intro (by show (strOf (d ++ y.2.1)).size - (i + 1) < (strOf (d ++ y.2.1)).size - i; omega) ⟨by omega, fun j b2 hj hb2 => ?_, Hp.keep H6⟩))
    by_cases e : j = i
    · rw [e, hb.1] at hb2
      injection hb2 with hb2
      rw [← hb2]
      rw [hb.2] at h48 h57
      exact dgI h48 h57
    · exact hdg j b2 (by omega) hb2
  have hD : ∀ b, b ∈ d ++ y.2.1 → dgB b = true := fun b hm => by
    obtain ⟨j, hj⟩ := List.getElem?_of_mem hm
    exact hdg j b (by have := (List.getElem?_eq_some_iff.1 hj).1; omega) hj
  refine br (fun q3 => ?_) (fun q3 => ?_)
  · have q3 : noS (strOf d) = true := q3
    exact Exists.intro (0, erN 15) (And.intro rfl (And.intro (hno _ rfl fun c h0 _ e => by rw [noS_strOf, (hcoin c h0 e).2.2.2] at q3; exact cQ_ne c (of_decide_eq_true q3)) (Hp.keep H4)))
  have q3 : noS (strOf d) = false := q3
  have hdne : d ≠ [] := fun e => by rw [noS_strOf, e] at q3; cases q3
  have hfin : ∀ w9, Hp ⟨w, M, I⟩ [] [Glob 0 (.iface 276 (.pointer pr)), LibF] w9 → Hp ⟨w, M, I⟩ [] [] w9 := fun w9 h => Hp.keep h
  have H5 : Hp ⟨w, M, I⟩ [] [Glob 0 (.iface 276 (.pointer pr)), LibF] w4 := Hp.keep H4
  have hwl : (y.1 ++ y.2.1).length ≤ l.length + 2 := by rw [List.length_append]; omega
  have hpc : ∀ c, 0 ≤ c → c ≤ 9223372036854775807 → l = coinL c → Lib.parseIntB 64 (y.1 ++ y.2.1) = .ok c := fun c h0 h1 e => by
    have hc := hcoin c h0 e
    rw [hc.1, hc.2.1]; exact coin_int h0 h1
  have hcase : ∀ b r, d = b :: r → (1 : Int) < ((strOf d).size : Int) → ((b.toNat : Int) == 48) = true → ∀ c, 0 ≤ c → c ≤ 9223372036854775807 → l = coinL c → False := fun b r h1 h2 h3 c h0 _ e => by
    have hc := hcoin c h0 e
    rw [strOf_size, h1, List.length_cons] at h2
    refine cQ_head c b r (by rw [← hc.2.2.2, h1]) (fun e2 => by rw [e2] at h2; simp at h2) ?_
    have h4 := eq_of_beq h3
    exact UInt8.toNat_inj.1 (by rw [show (48 : UInt8).toNat = 48 from rfl]; omega)
  refine Exists.elim (List.exists_cons_of_ne_nil hdne) fun b0 hb0 => Exists.elim hb0 fun r0 hr0 => ?_
  refine brd (fun h1 => ?_) (fun h1 => ?_)
  · refine strI_rule tok rfl hr0 ?_
    refine br (fun q4 => ?_) (fun q4 => ?_)
    · exact Exists.intro (0, erN 15) (And.intro rfl (And.intro (hno _ rfl (hcase b0 r0 hr0 h1 q4)) (Hp.keep H5)))
    refine sadd_as (strOf (y.1 ++ y.2.1)) (strOf_app _ _) (by rw [strOf_size]; omega) ?_
    refine Or.elim (parse_two hd hdne hD) (fun hv => ?_) (fun hr => ?_)
    · refine Exists.elim hv fun v hv => ?_
      refine call_rule H5 (fun M I _ h => parseI64ok (strOf (y.1 ++ y.2.1)) (by rw [strOf_size]; omega) v (by rw [strOf_data]; exact hv) _ M I h) fun _ w6 _ H6 => ?_
      refine glob_rule tok H6 (g := 0) (.iface 276 (.pointer pr)) rfl rfl ?_
      refine call_rule H6 (fun M I _ h => errIsNil pr _ M I h) fun _ w7 _ H7 => ?_
      refine call_rule H7 (fun M I _ h => coinText v (parseI64_in hv) _ M I h) fun _ w8 _ H8 => ?_
      refine br (fun q5 => ?_) (fun q5 => ?_)
      · have q5 : (!eqS (strOf (coinL v)) (strOf l)) = true := q5
        exact Exists.intro (0, erN 15) (And.intro rfl (And.intro (hno _ rfl fun c h0 h1 e => by
          have h2 := hpc c h0 h1 e
          rw [hv] at h2
          injection h2 with h2
          rw [eqS_strOf, h2, e, decide_eq_true rfl] at q5
          cases q5) (Hp.keep H8)))
      · have q5 : (!eqS (strOf (coinL v)) (strOf l)) = false := q5
        have q6 : l = coinL v := by
          rw [eqS_strOf] at q5
          have : decide (coinL v = l) = true := by simpa using q5
          exact (of_decide_eq_true this).symm
        exact Exists.intro (v, none) (And.intro rfl (And.intro (.inl ⟨rfl, q6, parseI64_in hv⟩) (Hp.keep H8)))
    · refine call_rule H5 (fun M I _ h => parseI64range (strOf (y.1 ++ y.2.1)) (by rw [strOf_size]; omega) (by rw [strOf_data]; exact hr) pr _ M I h) fun N w6 _ H6 => ?_
      refine glob_rule tok H6 (g := 0) (.iface 276 (.pointer pr)) rfl rfl ?_
      refine call_rule H6 (fun M I _ h => errIs N ⟨#[80, 97, 114, 115, 101, 73, 110, 116]⟩ (strOf (y.1 ++ y.2.1)) pr _ M I h) fun _ w7 _ H7 => ?_
      exact Exists.intro (0, erN 12) (And.intro rfl (And.intro (hno _ rfl fun c h0 h1 e => by
        have h2 := hpc c h0 h1 e
        rw [hr] at h2
        cases h2) (Hp.keep H7)))
  refine sadd_as (strOf (y.1 ++ y.2.1)) (strOf_app _ _) (by rw [strOf_size]; omega) ?_
  refine Or.elim (parse_two hd hdne hD) (fun hv => ?_) (fun hr => ?_)
  · refine Exists.elim hv fun v hv => ?_
    refine call_rule H5 (fun M I _ h => parseI64ok (strOf (y.1 ++ y.2.1)) (by rw [strOf_size]; omega) v (by rw [strOf_data]; exact hv) _ M I h) fun _ w6 _ H6 => ?_
    refine glob_rule tok H6 (g := 0) (.iface 276 (.pointer pr)) rfl rfl ?_
    refine call_rule H6 (fun M I _ h => errIsNil pr _ M I h) fun _ w7 _ H7 => ?_
    refine call_rule H7 (fun M I _ h => coinText v (parseI64_in hv) _ M I h) fun _ w8 _ H8 => ?_
    refine br (fun q5 => ?_) (fun q5 => ?_)
    · have q5 : (!eqS (strOf (coinL v)) (strOf l)) = true := q5
      exact Exists.intro (0, erN 15) (And.intro rfl (And.intro (hno _ rfl fun c h0 h1 e => by
        have h2 := hpc c h0 h1 e
        rw [hv] at h2
        injection h2 with h2
        rw [eqS_strOf, h2, e, decide_eq_true rfl] at q5
        cases q5) (Hp.keep H8)))
    · have q5 : (!eqS (strOf (coinL v)) (strOf l)) = false := q5
      have q6 : l = coinL v := by
        rw [eqS_strOf] at q5
        have : decide (coinL v = l) = true := by simpa using q5
        exact (of_decide_eq_true this).symm
      exact Exists.intro (v, none) (And.intro rfl (And.intro (.inl ⟨rfl, q6, parseI64_in hv⟩) (Hp.keep H8)))
  · refine call_rule H5 (fun M I _ h => parseI64range (strOf (y.1 ++ y.2.1)) (by rw [strOf_size]; omega) (by rw [strOf_data]; exact hr) pr _ M I h) fun N w6 _ H6 => ?_
    refine glob_rule tok H6 (g := 0) (.iface 276 (.pointer pr)) rfl rfl ?_
    refine call_rule H6 (fun M I _ h => errIs N ⟨#[80, 97, 114, 115, 101, 73, 110, 116]⟩ (strOf (y.1 ++ y.2.1)) pr _ M I h) fun _ w7 _ H7 => ?_
    exact Exists.intro (0, erN 12) (And.intro rfl (And.intro (hno _ rfl fun c h0 h1 e => by
      have h2 := hpc c h0 h1 e
      rw [hr] at h2
      cases h2) (Hp.keep H7)))
end Go.Proofs.YtgbmambkgcjhfaaGreatDoor
