/- Numbers read within bounds, with a sign; the end: the walks. -/
import Derived.Test.YtenpgmnknmnofaaDoorT36
namespace Go.Proofs.YtenpgmnknmnofaaDoor
open Go Go.Proofs Go.Wk
structure LS where
  p : List Nat
  bad : Bool
@[reducible] def byteIn (p : List Nat) : Prop := ∀ x, x ∈ p → x < 256
theorem numR_in {p : List Nat} {bad : Bool} (h : byteIn p) : byteIn (numR p bad).rest := fun x hx => by
  unfold numR at hx
  cases p with
  | nil => cases hx
  | cons b r =>
    simp only at hx
    split at hx
    · cases hx
    · exact h x (List.mem_cons_of_mem _ (List.mem_of_mem_drop hx))
theorem numR_lt {p : List Nat} {bad : Bool} (h : byteIn p) : (numR p bad).n < 18446744073709551616 := by
  unfold numR
  cases p with
  | nil => show 0 < _; omega
  | cons b r =>
    simp only
    split
    · show 0 < _; omega
    · rename_i hn
      have h1 : ¬ 8 < sizeOf_ b := fun hh => hn (.inr (.inr (.inl hh)))
      have h3 := valB_lt (r.take (sizeOf_ b)) 0 0 (fun x hx => h x (List.mem_cons_of_mem _ (List.mem_of_mem_take hx))) (by decide)
      rw [Nat.zero_add] at h3
      refine Nat.lt_of_lt_of_le h3 ?_
      have h4 : (r.take (sizeOf_ b)).length ≤ 8 := by rw [List.length_take]; omega
      have h5 := Nat.pow_le_pow_right (n := 256) (by decide) h4
      have h6 : (256 : Nat) ^ 8 = 18446744073709551616 := by decide
      omega
def uintR (m : Nat) (s : LS) : Nat × LS := if (numR s.p s.bad).mark = true ∨ m < (numR s.p s.bad).n then (0, ⟨[], true⟩) else ((numR s.p s.bad).n, ⟨(numR s.p s.bad).rest, (numR s.p s.bad).bad⟩)
def intR (s : LS) : Int × LS := if 9223372036854775808 ≤ (numR s.p s.bad).n then (0, ⟨[], true⟩) else (if (numR s.p s.bad).mark = true then -1 - ((numR s.p s.bad).n : Int) else ((numR s.p s.bad).n : Int), ⟨(numR s.p s.bad).rest, (numR s.p s.bad).bad⟩)
theorem uintR_in {m : Nat} {s : LS} (h : byteIn s.p) : byteIn (uintR m s).2.p := fun x hx => by
  unfold uintR at hx
  split at hx
  · cases hx
  · exact numR_in h x hx
theorem intR_in {s : LS} (h : byteIn s.p) : byteIn (intR s).2.p := fun x hx => by
  unfold intR at hx
  split at hx
  · cases hx
  · exact numR_in h x hx
theorem uintL (l : Nat) (s : SV) (t : LS) (m : Nat) (hp : byteIn t.p) (w : World) (M I : BS) (H : Hp ⟨w, M, I⟩ (lensA l s t.bad) [Sl byteR (svV s) t.p] w) :
    Ctr Tryd.prog 33 [.pointer (some ⟨l, 0, none⟩), .int .u64 m] w M I (fun _ : SV => .int .u64 ((uintR m t).1 : Nat)) (fun _ => True) (fun a => lensA l a (uintR m t).2.bad) (fun a => [Sl byteR (svV a) (uintR m t).2.p]) := by
  have no : ∀ w' (s' : SV), uintR m t = (0, ⟨[], true⟩) → Hp ⟨w, M, I⟩ (lensA l s' true) [Sl byteR (svV s') []] w' → ∃ a : SV, Value.int .u64 0 = .int .u64 ((uintR m t).1 : Nat) ∧ True ∧ Hp ⟨w, M, I⟩ (lensA l a (uintR m t).2.bad) [Sl byteR (svV a) (uintR m t).2.p] w' := fun w' s' e h => by
    rw [e]
    exact ⟨s', rfl, trivial, h⟩
  refine Exe.of_ev tok Tryd.call33 Tryd.func33 rfl rfl rfl ?_
  refine call_rule H (fun M I _ h => numberL l s t.bad t.p hp _ M I h) fun a w1 _ H1 => ?_
  have H1 : Hp ⟨w, M, I⟩ (lensA l a (numR t.p t.bad).bad) [Sl byteR (svV a) (numR t.p t.bad).rest] w1 := Hp.keep H1
  refine br (fun q => ?_) (fun q => ?_)
  · refine call_rule H1 (fun M I _ h => fail l a (numR t.p t.bad).bad _ M I h) fun _ w2 _ H2 => ?_
    exact no w2 ⟨none, 0, 0⟩ (by unfold uintR; rw [if_pos (.inl q)]) (Hp.keep (H2.slNil byteR))
  · refine brd (fun q2 => ?_) (fun q2 => ?_)
    · have q2 : (m : Int) < (numR t.p t.bad).n := q2
      refine call_rule H1 (fun M I _ h => fail l a (numR t.p t.bad).bad _ M I h) fun _ w2 _ H2 => ?_
      exact no w2 ⟨none, 0, 0⟩ (by unfold uintR; rw [if_pos (.inr (by omega))]) (Hp.keep (H2.slNil byteR))
    · have q2 : ¬ (m : Int) < (numR t.p t.bad).n := q2
      have e : uintR m t = ((numR t.p t.bad).n, ⟨(numR t.p t.bad).rest, (numR t.p t.bad).bad⟩) := by
        unfold uintR
        rw [if_neg (fun h => h.elim (fun h => by rw [h] at q; cases q) fun h => by omega)]
      rw [e]
      exact Exists.intro a (And.intro rfl (And.intro trivial H1))
set_option maxRecDepth 20000 in
theorem intL (l : Nat) (s : SV) (t : LS) (hp : byteIn t.p) (w : World) (M I : BS) (H : Hp ⟨w, M, I⟩ (lensA l s t.bad) [Sl byteR (svV s) t.p] w) :
    Ctr Tryd.prog 34 [.pointer (some ⟨l, 0, none⟩)] w M I (fun _ : SV => .int .i64 (intR t).1) (fun _ => True) (fun a => lensA l a (intR t).2.bad) (fun a => [Sl byteR (svV a) (intR t).2.p]) := by
  have hlt := numR_lt (bad := t.bad) hp
  refine Exe.of_ev tok Tryd.call34 Tryd.func34 rfl rfl rfl ?_
  refine call_rule H (fun M I _ h => numberL l s t.bad t.p hp _ M I h) fun a w1 _ H1 => ?_
  have H1 : Hp ⟨w, M, I⟩ (lensA l a (numR t.p t.bad).bad) [Sl byteR (svV a) (numR t.p t.bad).rest] w1 := Hp.keep H1
  refine brd (fun q => ?_) (fun q => ?_)
  · have q : (9223372036854775808 : Int) ≤ (numR t.p t.bad).n := q
    have e : intR t = (0, ⟨[], true⟩) := by unfold intR; rw [if_pos (by omega)]
    refine call_rule H1 (fun M I _ h => fail l a (numR t.p t.bad).bad _ M I h) fun _ w2 _ H2 => ?_
    rw [e]
    have H3 : Hp ⟨w, M, I⟩ (lensA l ⟨none, 0, 0⟩ true) [Sl byteR (.slice none 0 0) []] w2 := Hp.keep (H2.slNil byteR)
    exact Exists.intro ⟨none, 0, 0⟩ (And.intro rfl (And.intro trivial H3))
  · have q : ¬ (9223372036854775808 : Int) ≤ (numR t.p t.bad).n := q
    have e : intR t = (if (numR t.p t.bad).mark = true then -1 - ((numR t.p t.bad).n : Int) else ((numR t.p t.bad).n : Int), ⟨(numR t.p t.bad).rest, (numR t.p t.bad).bad⟩) := by unfold intR; rw [if_neg (by omega)]
    have ew : IntKind.i64.wrap ((numR t.p t.bad).n : Int) = (numR t.p t.bad).n := w64 (by omega) (by omega)
    refine br (fun q2 => ?_) (fun q2 => ?_)
    · rw [e, q2]
      refine Exists.intro a (And.intro ?_ (And.intro trivial H1))
      show Value.int .i64 (IntKind.i64.wrap (-1 - IntKind.i64.wrap ((numR t.p t.bad).n : Int))) = Value.int .i64 (-1 - ((numR t.p t.bad).n : Int))
      rw [ew, w64 (by omega) (by omega)]
    · rw [e, q2]
      refine Exists.intro a (And.intro ?_ (And.intro trivial H1))
      show Value.int .i64 (IntKind.i64.wrap ((numR t.p t.bad).n : Int)) = Value.int .i64 ((numR t.p t.bad).n : Int)
      rw [ew]
def endOk (t : LS) : Bool := !t.bad && (t.p.length == 0)
theorem endL (l : Nat) (s : SV) (t : LS) (w : World) (M I : BS) (H : Hp ⟨w, M, I⟩ (lensA l s t.bad) [Sl byteR (svV s) t.p] w) :
    Ctr Tryd.prog 35 [.pointer (some ⟨l, 0, none⟩)] w M I (fun _ : Unit => if endOk t = true then .nilIface else .iface 36 (.int .i64 2)) (fun _ => True) (fun _ => []) (fun _ => []) := by
  obtain ⟨p, bad⟩ := t
  obtain ⟨hn, _, _⟩ := H.sll (A := s.A) (n := s.n) (c := s.c)
  refine Exe.of_ev tok Tryd.call35 Tryd.func35 rfl rfl rfl ?_
  refine load_rule tok H (v := .bool bad) rfl ?_
  cases bad with
  | true =>
    exact Exists.intro () (And.intro rfl (And.intro trivial (Hp.keep H)))
  | false =>
    refine load_rule tok H (v := svV s) rfl ?_
    refine brd (fun q => ?_) (fun q => ?_)
    · have q : (0 : Int) < s.n := q
      have e : endOk ⟨p, false⟩ = false := by
        unfold endOk
        cases p with
        | nil => simp at hn; omega
        | cons x r => rfl
      rw [e]
      exact Exists.intro () (And.intro rfl (And.intro trivial (Hp.keep H)))
    · have q : ¬ (0 : Int) < s.n := q
      have e : endOk ⟨p, false⟩ = true := by
        unfold endOk
        cases p with
        | nil => rfl
        | cons x r => simp only [List.length_cons] at hn; omega
      rw [e]
      exact Exists.intro () (And.intro rfl (And.intro trivial (Hp.keep H)))
end Go.Proofs.YtenpgmnknmnofaaDoor
