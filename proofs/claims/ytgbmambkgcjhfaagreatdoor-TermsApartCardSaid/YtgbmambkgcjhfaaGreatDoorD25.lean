/- Terms in words: the walk. -/
import Derived.Test.YtgbmambkgcjhfaaGreatDoorD24
set_option linter.unusedVariables false
namespace Go.Proofs.YtgbmambkgcjhfaaGreatDoor
open Go Go.Proofs Go.Wk Go.Pl
theorem join8 (g : Nat) (a1 a2 a3 a4 a5 a6 a7 a8 : List UInt8) (hlen : (Lib.join [a1, a2, a3, a4, a5, a6, a7, a8] [32]).length ≤ 140737488355328) (w : World) (M I : BS) (H : Hp ⟨w, M, I⟩ [blk g [.string (strOf a1), .string (strOf a2), .string (strOf a3), .string (strOf a4), .string (strOf a5), .string (strOf a6), .string (strOf a7), .string (strOf a8)] 9] [] w) :
    Ctr Tryz.prog 50 [.slice (some ⟨g, 0, none⟩) 8 8, .string ⟨#[32]⟩] w M I (fun _ : Unit => .string (strOf (Lib.join [a1, a2, a3, a4, a5, a6, a7, a8] [32]))) (fun _ => True) (fun _ => []) (fun _ => []) := by
  have e : ([strOf a1, strOf a2, strOf a3, strOf a4, strOf a5, strOf a6, strOf a7, strOf a8].map (·.data.toList)) = [a1, a2, a3, a4, a5, a6, a7, a8] := by simp only [List.map_cons, List.map_nil, strOf_data]
  have h := joinS g 8 8 [strOf a1, strOf a2, strOf a3, strOf a4, strOf a5, strOf a6, strOf a7, strOf a8] rfl (by decide) (by decide) ⟨#[32]⟩ (by rw [e]; exact hlen) w M I H
  rw [e] at h
  exact h.imp fun a w' hφ hh => ⟨(), rfl, trivial, Hp.keep hh⟩
theorem lv_strOf (k : Int) : lvName k = strOf (bsL (lvName k)) := (strOf_of _).symm
theorem sp_strOf (k : Int) : spName k = strOf (bsL (spName k)) := (strOf_of _).symm
theorem name_len (k : Int) : (bsL (lvName k)).length ≤ 10 ∧ (bsL (spName k)).length ≤ 10 := by
  unfold bsL lvName spName
  constructor
  · split
    · decide
    · split <;> decide
  · split
    · decide
    · split <;> decide
theorem join_len (c : UInt8) : ∀ (l : List (List UInt8)), (∀ x, x ∈ l → x.length ≤ 30) → (Lib.join l [c]).length ≤ 31 * l.length
  | [], _ => by simp [Lib.join, List.intercalate]
  | [a], h => by
    rw [join_one]
    have := h a List.mem_cons_self
    simp; omega
  | a :: b :: l, h => by
    rw [join_cons, List.length_append, List.length_cons]
    have h1 := h a List.mem_cons_self
    have h2 := join_len c (b :: l) fun x hx => h x (List.mem_cons_of_mem _ hx)
    simp only [List.length_cons] at h2 ⊢
    omega
theorem words_len (t : Tm) (hin : TmIn t) {y m d : Int} (hd : Dat y m d) : (Lib.join (tmWords t (datL y m d)) [32]).length ≤ 248 := by
  refine join_len 32 _ fun x hx => ?_
  unfold tmWords at hx
  simp only [List.mem_cons, List.not_mem_nil, or_false] at hx
  have hi : ∀ n, inK .i64 n → (Lib.itoa n).length ≤ 30 := fun n h => Nat.le_trans (Lib.itoa_length_le n h.1 h.2) (by decide)
  have hp : inK .i64 t.parts := ⟨by have := hin.parts.1; simp only [kLo] at this ⊢; omega, by have := hin.parts.2; simp only [kHi] at this ⊢; omega⟩
  rcases hx with h | h | h | h | h | h | h | h <;> rw [h]
  · exact Nat.le_trans (name_len t.kind).1 (by decide)
  · exact Nat.le_trans (coin_len _ hin.prin) (by decide)
  · exact hi _ hp
  · exact Nat.le_trans (name_len t.basis).2 (by decide)
  · exact hi _ hin.months
  · rw [dat_length hd]; decide
  · exact Nat.le_trans (coin_len _ hin.fee) (by decide)
  · exact hi _ hin.grace
theorem itoaW (n v : Int) (hv : v = n) (h : inK .i64 n) (w : World) (M I : BS) (H : Hp ⟨w, M, I⟩ [] [LibF] w) :
    Ctr Tryz.prog 73 [.int .i64 v] w M I (fun _ : Unit => .string (strOf (Lib.itoa n))) (fun _ => True) (fun _ => []) (fun _ => []) := by
  rw [hv]; exact itoa n h w M I H
theorem levelNameL (k : Int) : CB 71 [.int .u8 k] (.string (strOf (bsL (lvName k)))) := by rw [← lv_strOf]; exact levelName k
theorem spanNameL (k : Int) : CB 74 [.int .u8 k] (.string (strOf (bsL (spName k)))) := by rw [← sp_strOf]; exact spanName k
set_option maxHeartbeats 4000000 in
set_option maxRecDepth 20000 in
/-- Terms in words. -/
theorem tmText (t : Tm) (hin : TmIn t) (ht : tmB t = true) (ok : TmOk t) (w : World) (M I : BS) (H : Hp ⟨w, M, I⟩ [] [LibF] w) :
    Ctr Tryz.prog 30 [tmV t] w M I (fun s : ByteArray => .string s) (fun s => TmT t s) (fun _ => []) (fun _ => []) := by
  have hp : inK .i64 t.parts := ⟨by have := hin.parts.1; simp only [kLo] at this ⊢; omega, by have := hin.parts.2; simp only [kHi] at this ⊢; omega⟩
  have hst := ok.start
  have hdst : dayB t.start = true := by simp only [dayB, Bool.and_eq_true, decide_eq_true_eq]; omega
  refine Exe.of_ev tok Tryz.call30 Tryz.func30 rfl rfl rfl ?_
  refine box_as H (tmC t) rfl fun b w1 H1 => ?_
  refine load_rule tok H1 (v := tmV t) rfl ?_
  refine call_rule H1 (fun M I _ h => (show Ctr Tryz.prog 28 [tmV t] _ M I (fun _ : Unit => .bool true) (fun _ => True) (fun _ => []) (fun _ => []) from ht ▸ termsRight t _ M I h)) fun _ w2 _ H2 => ?_
  have H2 : Hp ⟨w, M, I⟩ [blk b (tmC t) 28] [LibF] w2 := Hp.keep H2
  refine draw_rule (A := []) tok tdr H2 [0, 1, 2, 3, 4, 5, 6, 7, 8, 9, 10, 11, 12, 13, 14, 15, 16, 17, 18, 19, 20, 21, 22, 23, 24, 25, 26, 27, 28, 29] [0, 1, 3, 0, 8, 31, 0, 64, 192, 448, 1023, 0, 2048, 6144, 16383, 0, 32768, 131071, 0, 262144, 1048575, 0, 2097152, 8388607, 0, 16777216, 67108863, 134217727, 268435455, 536870911] rfl ?_
  refine pass_rule _ (fun w h => load_rule tok h (v := .int .u8 t.kind) rfl ⟨rfl, rfl⟩) ?_
  refine imp_rule (fun X wx h => call_rule h (fun M I _ h => levelNameL t.kind _ M I h) fun _ w1 _ H1 => imp_done H1 ?_)
  refine pass_rule _ (fun w h => load_rule tok h (v := .int .i64 t.prin) rfl ⟨rfl, rfl⟩) ?_
  refine imp_rule (fun X wx h => call_rule h (fun M I _ h => coinText t.prin hin.prin _ M I h) fun _ w1 _ H1 => imp_done H1 ?_)
  refine pass_rule _ (fun w h => load_rule tok h (v := .int .u32 t.parts) rfl ⟨rfl, rfl⟩) ?_
  refine imp_rule (fun X wx h => call_rule h (fun M I _ h => itoaW t.parts _ (wrap_id hp) hp _ M I h) fun _ w1 _ H1 => imp_done H1 ?_)
  refine pass_rule _ (fun w h => load_rule tok h (v := .int .u8 t.basis) rfl ⟨rfl, rfl⟩) ?_
  refine imp_rule (fun X wx h => call_rule h (fun M I _ h => spanNameL t.basis _ M I h) fun _ w1 _ H1 => imp_done H1 ?_)
  refine pass_rule _ (fun w h => load_rule tok h (v := .int .i64 t.months) rfl ⟨rfl, rfl⟩) ?_
  refine imp_rule (fun X wx h => call_rule h (fun M I _ h => itoa t.months hin.months _ M I h) fun _ w1 _ H1 => imp_done H1 ?_)
  refine pass_rule _ (fun w h => load_rule tok h (v := .int .i32 t.start) rfl ⟨rfl, rfl⟩) ?_
  refine imp_rule (fun X wx h => call_rule h (fun M I _ h => dayText t.start hdst _ M I h) fun a w1 ha H1 => imp_done H1 ?_)
  refine pass_rule _ (fun w h => load_rule tok h (v := .int .i64 t.fee) rfl ⟨rfl, rfl⟩) ?_
  refine imp_rule (fun X wx h => call_rule h (fun M I _ h => coinText t.fee hin.fee _ M I h) fun _ w1 _ H1 => imp_done H1 ?_)
  refine pass_rule _ (fun w h => load_rule tok h (v := .int .i64 t.grace) rfl ⟨rfl, rfl⟩) ?_
  refine imp_rule (fun X wx h => call_rule h (fun M I _ h => itoa t.grace hin.grace _ M I h) fun _ w1 _ H1 => imp_done H1 ?_)
  refine fresh_slice tok [.string (strOf (bsL (lvName t.kind))), .string (strOf (coinL t.prin)), .string (strOf (Lib.itoa t.parts)), .string (strOf (bsL (spName t.basis))), .string (strOf (Lib.itoa t.months)), .string (strOf (datL a.1 a.2.1 a.2.2)), .string (strOf (coinL t.fee)), .string (strOf (Lib.itoa t.grace))] rfl rfl rfl rfl rfl rfl rfl fun g => ?_
  refine imp_rule (fun X wx h => call_rule h (fun M I _ h => join8 g (bsL (lvName t.kind)) (coinL t.prin) (Lib.itoa t.parts) (bsL (spName t.basis)) (Lib.itoa t.months) (datL a.1 a.2.1 a.2.2) (coinL t.fee) (Lib.itoa t.grace) (Nat.le_trans (words_len t hin ha.1) (by decide)) _ M I h) fun _ w1 _ H1 => imp_done H1 ?_)
  refine done_rule fun w4 H4 => ?_
  exact Exists.intro (strOf (Lib.join (tmWords t (datL a.1 a.2.1 a.2.2)) [32])) (And.intro rfl (And.intro ⟨a.1, a.2.1, a.2.2, ha.1, ha.2, rfl⟩ (Hp.keep H4)))
theorem tmTextNo (t : Tm) (ht : tmB t = false) (w : World) (M I : BS) (H : Hp ⟨w, M, I⟩ [] [] w) :
    Ctr Tryz.prog 30 [tmV t] w M I (fun _ : Unit => .string ⟨#[]⟩) (fun _ => True) (fun _ => []) (fun _ => []) := by
  refine Exe.of_ev tok Tryz.call30 Tryz.func30 rfl rfl rfl ?_
  refine box_as H (tmC t) rfl fun b w1 H1 => ?_
  refine load_rule tok H1 (v := tmV t) rfl ?_
  refine call_rule H1 (fun M I _ h => (show Ctr Tryz.prog 28 [tmV t] _ M I (fun _ : Unit => .bool false) (fun _ => True) (fun _ => []) (fun _ => []) from ht ▸ termsRight t _ M I h)) fun _ w2 _ H2 => ?_
  exact Exists.intro () (And.intro rfl (And.intro trivial (Hp.keep H2)))
end Go.Proofs.YtgbmambkgcjhfaaGreatDoor
