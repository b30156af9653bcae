/- Kinds and bases by their names: the walks. -/
import Derived.Test.YtgbmambkgcjhfaaGreatDoorD16
set_option linter.unusedVariables false
namespace Go.Proofs.YtgbmambkgcjhfaaGreatDoor
open Go Go.Proofs Go.Wk
def spName (k : Int) : ByteArray := if k = 1 then ⟨#[97, 99, 116, 117, 97, 108]⟩ else if k = 2 then ⟨#[116, 104, 105, 114, 116, 121]⟩ else ⟨#[]⟩
theorem spanName (k : Int) : CB 74 [.int .u8 k] (.string (spName k)) := by
  intro w M I H
  refine Exe.of_ev tok Tryz.call74 Tryz.func74 rfl rfl rfl ?_
  refine br (fun q => ?_) (fun q => ?_)
  · have q : k = 1 := by have q : (k == 1) = true := q; simpa using q
    exact Exists.intro () (And.intro (congrArg Value.string (by unfold spName; rw [if_pos q])) (And.intro trivial H))
  have q1 : k ≠ 1 := by have q : (k == 1) = false := q; simpa using q
  refine br (fun q => ?_) (fun q => ?_)
  · have q : k = 2 := by have q : (k == 2) = true := q; simpa using q
    exact Exists.intro () (And.intro (congrArg Value.string (by unfold spName; rw [if_neg q1, if_pos q])) (And.intro trivial H))
  · have q : k ≠ 2 := by have q : (k == 2) = false := q; simpa using q
    exact Exists.intro () (And.intro (congrArg Value.string (by unfold spName; rw [if_neg q1, if_neg q])) (And.intro trivial H))
def eqS (a b : ByteArray) : Bool := a.toList == b.toList
/-- Of a name; 0: it is none. -/
def lvKind (s : ByteArray) : Int := if eqS (lvName 1) s = true then 1 else if eqS (lvName 2) s = true then 2 else 0
theorem levelKind (s : ByteArray) : CB 90 [.string s] (.int .u8 (lvKind s)) := by
  intro w M I H
  refine Exe.of_ev tok Tryz.call90 Tryz.func90 rfl rfl rfl ?_
  refine loop_rule tok (σ := Nat) 8188 (fun k => [(3, .int .u8 (k : Int))]) (fun k w' => 1 ≤ k ∧ k ≤ 3 ∧ (∀ j : Nat, 1 ≤ j → j < k → eqS (lvName j) s = false) ∧ Hp ⟨w, M, I⟩ [] [] w') (fun k => 3 - k) 1 rfl rfl ⟨rfl, trivial⟩ ⟨by decide, by decide, (fun j a b => by omega), H⟩ ?_
  intro k j w1 hW
  have h1 := hW.1
  have h2 := hW.2.1
  have h3 := hW.2.2.1
  have H1 := hW.2.2.2
  refine brd (fun hle => ?_) (fun hgt => ?_)
  · have ew : IntKind.u8.wrap ((k : Int) + 1) = ((k + 1 : Nat) : Int) := wrap_id ⟨by show (0 : Int) ≤ _; omega, by show _ ≤ (255 : Int); omega⟩
    refine call_rule H1 (fun M I _ h => levelName (k : Int) _ M I h) fun _ w2 _ H2 => ?_
    refine br (fun q => ?_) (fun q => ?_)
    · have q : eqS (lvName (k : Int)) s = true := q
      refine Exists.intro () (And.intro (congrArg (Value.int .u8) ?_) (And.intro trivial (Hp.keep H2)))
      unfold lvKind
      by_cases e : k = 1
      · subst e
        have q : eqS (lvName 1) s = true := q
        rw [if_pos q]; rfl
      · have e2 : k = 2 := by omega
        subst e2
        have q1 := h3 1 (by decide) (by decide)
        have q : eqS (lvName 2) s = true := q
        rw [if_neg (by show ¬ eqS (lvName 1) s = true; have q1 : eqS (lvName 1) s = false := q1; rw [q1]; simp), if_pos q]; rfl
    · have q : eqS (lvName (k : Int)) s = false := q
      refine Exists.intro (k + 1) (And.intro ⟨congrArg (Value.int .u8) ew, trivial⟩ (And.intro (by show 3 - (k + 1) < 3 - k; omega) ⟨by omega, by omega, fun j a b => ?_, Hp.keep H2⟩))
      by_cases e : j = k
      · rw [e]; exact q
      · exact h3 j a (by omega)
  · have e : k = 3 := by omega
    subst e
    have q1 : eqS (lvName 1) s = false := h3 1 (by decide) (by decide)
    have q2 : eqS (lvName 2) s = false := h3 2 (by decide) (by decide)
    refine Exists.intro () (And.intro (congrArg (Value.int .u8) ?_) (And.intro trivial H1))
    unfold lvKind
    rw [if_neg (by rw [q1]; simp), if_neg (by rw [q2]; simp)]
/-- Of a name; 0: it is none. -/
def spBasis (s : ByteArray) : Int := if eqS (spName 1) s = true then 1 else if eqS (spName 2) s = true then 2 else 0
theorem spanBasis (s : ByteArray) : CB 91 [.string s] (.int .u8 (spBasis s)) := by
  intro w M I H
  refine Exe.of_ev tok Tryz.call91 Tryz.func91 rfl rfl rfl ?_
  refine loop_rule tok (σ := Nat) 8188 (fun k => [(3, .int .u8 (k : Int))]) (fun k w' => 1 ≤ k ∧ k ≤ 3 ∧ (∀ j : Nat, 1 ≤ j → j < k → eqS (spName j) s = false) ∧ Hp ⟨w, M, I⟩ [] [] w') (fun k => 3 - k) 1 rfl rfl ⟨rfl, trivial⟩ ⟨by decide, by decide, (fun j a b => by omega), H⟩ ?_
  intro k j w1 hW
  have h1 := hW.1
  have h2 := hW.2.1
  have h3 := hW.2.2.1
  have H1 := hW.2.2.2
  refine brd (fun hle => ?_) (fun hgt => ?_)
  · have ew : IntKind.u8.wrap ((k : Int) + 1) = ((k + 1 : Nat) : Int) := wrap_id ⟨by show (0 : Int) ≤ _; omega, by show _ ≤ (255 : Int); omega⟩
    refine call_rule H1 (fun M I _ h => spanName (k : Int) _ M I h) fun _ w2 _ H2 => ?_
    refine br (fun q => ?_) (fun q => ?_)
    · have q : eqS (spName (k : Int)) s = true := q
      refine Exists.intro () (And.intro (congrArg (Value.int .u8) ?_) (And.intro trivial (Hp.keep H2)))
      unfold spBasis
      by_cases e : k = 1
      · subst e
        have q : eqS (spName 1) s = true := q
        rw [if_pos q]; rfl
      · have e2 : k = 2 := by omega
        subst e2
        have q1 := h3 1 (by decide) (by decide)
        have q : eqS (spName 2) s = true := q
        rw [if_neg (by show ¬ eqS (spName 1) s = true; have q1 : eqS (spName 1) s = false := q1; rw [q1]; simp), if_pos q]; rfl
    · have q : eqS (spName (k : Int)) s = false := q
      refine Exists.intro (k + 1) (And.intro ⟨congrArg (Value.int .u8) ew, trivial⟩ (And.intro (by show 3 - (k + 1) < 3 - k; omega) ⟨by omega, by omega, fun j a b => ?_, Hp.keep H2⟩))
      by_cases e : j = k
      · rw [e]; exact q
      · exact h3 j a (by omega)
  · have e : k = 3 := by omega
    subst e
    have q1 : eqS (spName 1) s = false := h3 1 (by decide) (by decide)
    have q2 : eqS (spName 2) s = false := h3 2 (by decide) (by decide)
    refine Exists.intro () (And.intro (congrArg (Value.int .u8) ?_) (And.intro trivial H1))
    unfold spBasis
    rw [if_neg (by rw [q1]; simp), if_neg (by rw [q2]; simp)]
end Go.Proofs.YtgbmambkgcjhfaaGreatDoor
