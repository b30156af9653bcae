/- Keys stand in the order: the walk. -/
import Derived.Test.YtenpgmnknmnofaaT9
namespace Go.Proofs.Ytenpgmnknmnofaa
open Go Go.Proofs Go.Wk
def eqK (a b : Key) : Bool := a.loan == b.loan && (a.day == b.day && (a.kind == b.kind && (a.seq == b.seq && true)))
theorem cmp_neg {a b : Int} : cmpI a b = 0 ↔ a = b := by
  unfold cmpI
  by_cases h : a < b
  · rw [if_pos h]; constructor
    · intro h1; cases h1
    · intro h1; omega
  · rw [if_neg h]
    by_cases h2 : b < a
    · rw [if_pos h2]; constructor
      · intro h1; cases h1
      · intro h1; omega
    · rw [if_neg h2]; constructor
      · intro _; omega
      · intro _; rfl
theorem cmp_swap (a b : Int) : cmpI b a = -cmpI a b := by
  unfold cmpI
  by_cases h : a < b
  · simp only [if_pos h, if_neg (show ¬ b < a by omega)]; omega
  · by_cases h2 : b < a
    · simp only [if_neg h, if_pos h2]
    · simp only [if_neg h, if_neg h2]; omega
theorem eqK_less (a b : Key) : eqK a b = (!lessB a b && !lessB b a) := by
  have c1 := @cmp_neg a.loan b.loan
  have c2 := @cmp_neg a.day b.day
  have c3 := @cmp_neg a.kind b.kind
  have c4 := @cmp_neg a.seq b.seq
  unfold eqK lessB
  rw [cmp_swap a.loan b.loan, cmp_swap a.day b.day, cmp_swap a.kind b.kind, cmp_swap a.seq b.seq]
  generalize cmpI a.loan b.loan = x1 at *
  generalize cmpI a.day b.day = x2 at *
  generalize cmpI a.kind b.kind = x3 at *
  generalize cmpI a.seq b.seq = x4 at *
  have e1 : (a.loan == b.loan) = decide (x1 = 0) := by rw [Bool.eq_iff_iff]; simp [c1]
  have e2 : (a.day == b.day) = decide (x2 = 0) := by rw [Bool.eq_iff_iff]; simp [c2]
  have e3 : (a.kind == b.kind) = decide (x3 = 0) := by rw [Bool.eq_iff_iff]; simp [c3]
  have e4 : (a.seq == b.seq) = decide (x4 = 0) := by rw [Bool.eq_iff_iff]; simp [c4]
  rw [e1, e2, e3, e4]
  simp only [orL, ne_eq, ite_not]
  rw [Bool.eq_iff_iff]
  simp only [Bool.and_eq_true, decide_eq_true_eq, Bool.not_eq_true', decide_eq_false_iff_not, Bool.and_true]
  by_cases h1 : x1 = 0 <;> by_cases h2 : x2 = 0 <;> by_cases h3 : x3 = 0 <;> by_cases h4 : x4 = 0 <;> simp_all <;> omega
theorem acc_min (n : Int) (h0 : 0 ≤ n) : ldV (tb 9) ((accL ++ [(⟨#[]⟩ : ByteArray)]).map Value.string) (0 + (if 10 < n then 10 else n).toNat * 1) = some (.string (accName n)) := by
  show ((accL ++ [(⟨#[]⟩ : ByteArray)]).map Value.string)[0 + (if 10 < n then 10 else n).toNat * 1]? = _
  by_cases h : 10 < n
  · rw [if_pos h]
    have : accL.length ≤ n.toNat := by show 10 ≤ _; omega
    simp only [accName, List.getElem?_eq_none this]
    rfl
  · rw [if_neg h]
    obtain ⟨m, rfl⟩ := Int.eq_ofNat_of_zero_le h0
    have hm : m ≤ 10 := by omega
    rcases (show m = 0 ∨ m = 1 ∨ m = 2 ∨ m = 3 ∨ m = 4 ∨ m = 5 ∨ m = 6 ∨ m = 7 ∨ m = 8 ∨ m = 9 ∨ m = 10 by omega) with rfl | rfl | rfl | rfl | rfl | rfl | rfl | rfl | rfl | rfl | rfl <;> rfl
theorem kind_min (n : Int) (h0 : 0 ≤ n) : ldV (tb 9) ((kindL ++ [(⟨#[]⟩ : ByteArray)]).map Value.string) (0 + (if 8 < n then 8 else n).toNat * 1) = some (.string (kindName n)) := by
  show ((kindL ++ [(⟨#[]⟩ : ByteArray)]).map Value.string)[0 + (if 8 < n then 8 else n).toNat * 1]? = _
  by_cases h : 8 < n
  · rw [if_pos h]
    have : kindL.length ≤ n.toNat := by show 8 ≤ _; omega
    simp only [kindName, List.getElem?_eq_none this]
    rfl
  · rw [if_neg h]
    obtain ⟨m, rfl⟩ := Int.eq_ofNat_of_zero_le h0
    have hm : m ≤ 8 := by omega
    rcases (show m = 0 ∨ m = 1 ∨ m = 2 ∨ m = 3 ∨ m = 4 ∨ m = 5 ∨ m = 6 ∨ m = 7 ∨ m = 8 by omega) with rfl | rfl | rfl | rfl | rfl | rfl | rfl | rfl | rfl <;> rfl
theorem orders (a b : Key) (n : Int) (h0 : 0 ≤ n) (h1 : n ≤ 255) (w : World) (M I : BS) (_hM : ∀ b, ¬ M b) (H : Hp ⟨w, M, I⟩ [] [] w) :
    Ctr Try.prog 4 [keyV a, keyV b, .int .u8 n] w M I (fun _ : Unit => .bool true) (fun _ => True) (fun _ => []) (fun _ => []) := by
  refine Exe.of_ev tok Try.call4 Try.func4 rfl rfl rfl ?_
  refine box_as H (keyC a) rfl fun x w1 H1 => ?_
  refine box_as H1 (keyC b) rfl fun y w2 H2 => ?_
  refine call_rule H2 (fun M I h0 h => awake _ M I (h0 rfl) h) fun _ w3 _ H3 => ?_
  refine slice_as tok H3 ((accL ++ [(⟨#[]⟩ : ByteArray)]).map Value.string) rfl rfl rfl rfl rfl rfl fun g w4 H4 => ?_
  refine slice_as tok H4 ((kindL ++ [(⟨#[]⟩ : ByteArray)]).map Value.string) rfl rfl rfl rfl rfl rfl fun g2 w5 H5 => ?_
  refine draw_rule (A := []) tok tdr H5 [0, 1, 2, 3, 4, 5, 6, 7, 8, 9, 13, 14, 15, 16, 17, 18, 19, 20, 10, 11, 12, 21, 22, 23, 24, 25, 26, 27, 28, 29, 30, 31, 32, 33, 34, 35, 36, 37, 38, 39, 40, 41, 42, 43, 44, 45] [0, 0, 3, 0, 15, 0, 63, 127, 255, 511, 1023, 1023, 4095, 1023, 1023, 25599, 58367, 123903, 254975, 254975, 1041407, 2089983, 4187135, 8388607, 16777215, 33554431, 67108863, 134217727, 67108863, 67108863, 603979775, 1946157055, 4093640703, 8589934591, 17179869183, 34359738367, 68719476735, 137438953471, 68719476735, 68719476735, 618475290623, 1992864825343, 4191888080895, 8796093022207, 17592186044415, 35184372088831] rfl ?_
  refine pass_rule _ (fun w h => load_rule tok h (v := keyV a) rfl ⟨rfl, rfl⟩) ?_
  refine pass_rule _ (fun w h => load_rule tok h (v := keyV b) rfl ⟨rfl, rfl⟩) ?_
  refine imp_rule (fun X w h => call_rule h (fun M I _ h => less a b _ M I h) fun _ w1 _ H1 => imp_done H1 ?_)
  refine pass_rule _ (fun w h => load_rule tok h (v := keyV a) rfl ⟨rfl, rfl⟩) ?_
  refine imp_rule (fun X w h => call_rule h (fun M I _ h => key_ a _ M I h) fun _ w1 _ H1 => imp_done H1 ?_)
  refine pass_rule _ (fun w h => load_rule tok h (v := keyV b) rfl ⟨rfl, rfl⟩) ?_
  refine imp_rule (fun X w h => call_rule h (fun M I _ h => key_ b _ M I h) fun _ w1 _ H1 => imp_done H1 ?_)
  refine imp_rule (fun X w h => call_rule h (fun M I _ h => lessR a b _ M I h) fun _ w1 _ H1 => imp_done H1 ?_)
  refine br (fun q1 => ?_) (fun q1 => ?_)
  rotate_left
  · simp at q1
  refine pass_rule _ (fun w h => load_rule tok h (v := keyV a) rfl ⟨rfl, rfl⟩) ?_
  refine pass_rule _ (fun w h => load_rule tok h (v := keyV b) rfl ⟨rfl, rfl⟩) ?_
  refine imp_rule (fun X w h => call_rule h (fun M I _ h => less a b _ M I h) fun _ w1 _ H1 => imp_done H1 ?_)
  refine br (fun q2 => ?_) (fun q2 => ?_)
  · refine pass_rule _ (fun w h => load_rule tok h (v := keyV b) rfl ⟨rfl, rfl⟩) ?_
    refine pass_rule _ (fun w h => load_rule tok h (v := keyV a) rfl ⟨rfl, rfl⟩) ?_
    refine imp_rule (fun X w h => call_rule h (fun M I _ h => less b a _ M I h) fun _ w1 _ H1 => imp_done H1 ?_)
    refine pass_rule _ (fun w h => load_rule tok h (v := keyV a) rfl ⟨rfl, rfl⟩) ?_
    refine pass_rule _ (fun w h => load_rule tok h (v := keyV b) rfl ⟨rfl, rfl⟩) ?_
    refine pass_rule _ (fun w h => eq_struct tok (r := eqK a b) rfl Try.eqGuardType25 Try.stoodInHeld25 rfl ⟨rfl, rfl⟩) ?_
    refine br (fun q3 => ?_) (fun q3 => ?_)
    rotate_left
    · exact absurd q3 (by rw [eqK_less, q2]; simp)
    refine imp_rule (fun X w h => call_rule h (fun M I _ h => account n h0 h1 _ M I h) fun _ w1 _ H1 => imp_done H1 ?_)
    have m1 : 0 ≤ (if 10 < n then 10 else n) ∧ (if 10 < n then 10 else n) < (11 : Nat) := by split <;> omega
    refine pass_rule _ (fun w h => idx_own tok rfl rfl m1.1 m1.2 ⟨rfl, rfl⟩) ?_
    refine pass_rule _ (fun w h => load_rule tok h (v := .string (accName n)) (acc_min n h0) ⟨rfl, rfl⟩) ?_
    refine br (fun q4 => ?_) (fun q4 => ?_)
    rotate_left
    · simp at q4
    refine imp_rule (fun X w h => call_rule h (fun M I _ h => kind n h0 h1 _ M I h) fun _ w1 _ H1 => imp_done H1 ?_)
    have m2 : 0 ≤ (if 8 < n then 8 else n) ∧ (if 8 < n then 8 else n) < (9 : Nat) := by split <;> omega
    refine pass_rule _ (fun w h => idx_own tok rfl rfl m2.1 m2.2 ⟨rfl, rfl⟩) ?_
    refine pass_rule _ (fun w h => load_rule tok h (v := .string (kindName n)) (kind_min n h0) ⟨rfl, rfl⟩) ?_
    refine done_rule fun w6 H6 => ?_
    refine Exists.intro () (And.intro (congrArg Value.bool ?_) (And.intro trivial H6.dropAll))
    simp
  · skip
    refine pass_rule _ (fun w h => load_rule tok h (v := keyV a) rfl ⟨rfl, rfl⟩) ?_
    refine pass_rule _ (fun w h => load_rule tok h (v := keyV b) rfl ⟨rfl, rfl⟩) ?_
    refine pass_rule _ (fun w h => eq_struct tok (r := eqK a b) rfl Try.eqGuardType25 Try.stoodInHeld25 rfl ⟨rfl, rfl⟩) ?_
    refine br (fun q3 => ?_) (fun q3 => ?_)
    rotate_left
    · exact absurd q3 (by rw [eqK_less, q2]; simp)
    refine imp_rule (fun X w h => call_rule h (fun M I _ h => account n h0 h1 _ M I h) fun _ w1 _ H1 => imp_done H1 ?_)
    have m1 : 0 ≤ (if 10 < n then 10 else n) ∧ (if 10 < n then 10 else n) < (11 : Nat) := by split <;> omega
    refine pass_rule _ (fun w h => idx_own tok rfl rfl m1.1 m1.2 ⟨rfl, rfl⟩) ?_
    refine pass_rule _ (fun w h => load_rule tok h (v := .string (accName n)) (acc_min n h0) ⟨rfl, rfl⟩) ?_
    refine br (fun q4 => ?_) (fun q4 => ?_)
    rotate_left
    · simp at q4
    refine imp_rule (fun X w h => call_rule h (fun M I _ h => kind n h0 h1 _ M I h) fun _ w1 _ H1 => imp_done H1 ?_)
    have m2 : 0 ≤ (if 8 < n then 8 else n) ∧ (if 8 < n then 8 else n) < (9 : Nat) := by split <;> omega
    refine pass_rule _ (fun w h => idx_own tok rfl rfl m2.1 m2.2 ⟨rfl, rfl⟩) ?_
    refine pass_rule _ (fun w h => load_rule tok h (v := .string (kindName n)) (kind_min n h0) ⟨rfl, rfl⟩) ?_
    refine done_rule fun w6 H6 => ?_
    refine Exists.intro () (And.intro (congrArg Value.bool ?_) (And.intro trivial H6.dropAll))
    simp
end Go.Proofs.Ytenpgmnknmnofaa
