/- When something is due: holidays, open days, months behind a day: the walks. -/
import Derived.Test.YtgbmambkgcjhfaaGreatDoorD3
set_option linter.unusedVariables false
namespace Go.Proofs.YtgbmambkgcjhfaaGreatDoor
open Go Go.Proofs Go.Wk
theorem drop_one {α : Type} {ls : List α} {i : Nat} {x : α} (h : ls[i]? = some x) : ls.drop i = x :: ls.drop (i + 1) := by
  obtain ⟨hj, _⟩ := List.getElem?_eq_some_iff.1 h
  rw [List.drop_eq_getElem_cons hj]
  rw [List.getElem?_eq_getElem hj] at h
  rw [Option.some.inj h]
def idxL (d : Int) : List Int → Int → Int
  | [], _ => -1
  | x :: r, i => if d = x then i else idxL d r (i + 1)
theorem idxL_has (d : Int) : ∀ (l : List Int) (i : Int), 0 ≤ i → decide (0 ≤ idxL d l i) = l.contains d
  | [], i, _ => by simp [idxL]
  | x :: r, i, h => by
    unfold idxL
    by_cases e : d = x
    · rw [if_pos e]; simp [e, h]
    · rw [if_neg e, idxL_has d r (i + 1) (by omega)]
      simp [e]
@[reducible] def dayR : Rp Int := Go.Wk.intR .i32
theorem index (A : Option Addr) (n c : Nat) (hs : List Int) (d : Int) (w : World) (M I : BS) (H : Hp ⟨w, M, I⟩ [] [Sl dayR (.slice A n c) hs] w) :
    Ctr Tryz.prog 133 [.slice A n c, .int .i32 d] w M I (fun _ : Unit => .int .i64 (idxL d hs 0)) (fun _ => True) (fun _ => []) (fun _ => []) := by
  obtain ⟨hn, hc, hc2⟩ := H.sll (A := A) (n := n) (c := c)
  refine Exe.of_ev tok Tryz.call133 Tryz.func133 rfl rfl rfl ?_
  refine loop_rule tok (σ := Nat) 524080 (fun i => [(8, .int .i64 (i : Int))]) (fun i w' => i ≤ n ∧ idxL d hs 0 = idxL d (hs.drop i) i ∧ Hp ⟨w, M, I⟩ [] [Sl dayR (.slice A n c) hs] w') (fun i => n - i) 0 rfl rfl ⟨rfl, trivial⟩ ⟨Nat.zero_le _, rfl, H⟩ ?_
  intro i j w1 hW
  have hi := hW.1
  have hg := hW.2.1
  have H1 := hW.2.2
  refine brd (fun hin => ?_) (fun hno => ?_)
  · have ew : IntKind.i64.wrap ((i : Int) + 1) = ((i + 1 : Nat) : Int) := w64 (by omega) (by omega)
    refine idx_rule tok H1 rfl rfl rfl (by omega) hin fun eb eo x hx H2 => ?_
    have hx' : hs[i]? = some x := by simpa using hx
    refine ld1_rule tok H2 (v := fun _ => .int .i32 x) rfl rfl (fun _ => rfl) fun _ _ H3 => ?_
    have hd := drop_one hx'
    refine br (fun q => ?_) (fun q => ?_)
    · have q : d = x := by have q : (d == x) = true := q; simpa using q
      refine Exists.intro () (And.intro (congrArg (Value.int .i64) ?_) (And.intro trivial (Hp.keep H3)))
      rw [hg, hd, idxL, if_pos q]
    · have q : ¬ d = x := by have q : (d == x) = false := q; simpa using q
      refine Exists.intro (i + 1) (And.intro ⟨congrArg (Value.int .i64) ew, trivial⟩ (And.intro (by show n - (i + 1) < n - i; omega) ⟨by omega, ?_, Hp.keep H3⟩))
      rw [hg, hd, idxL, if_neg q]; rfl
  · refine Exists.intro () (And.intro (congrArg (Value.int .i64) ?_) (And.intro trivial (Hp.keep H1)))
    rw [hg, List.drop_eq_nil_of_le (by omega)]; rfl
theorem contains (A : Option Addr) (n c : Nat) (hs : List Int) (d : Int) (w : World) (M I : BS) (H : Hp ⟨w, M, I⟩ [] [Sl dayR (.slice A n c) hs] w) :
    Ctr Tryz.prog 88 [.slice A n c, .int .i32 d] w M I (fun _ : Unit => .bool (hs.contains d)) (fun _ => True) (fun _ => []) (fun _ => []) := by
  refine Exe.of_ev tok Tryz.call88 Tryz.func88 rfl rfl rfl ?_
  refine call_rule H (fun M I _ h => index A n c hs d _ M I h) fun _ w1 _ H1 => ?_
  exact Exists.intro () (And.intro (congrArg Value.bool (idxL_has d hs 0 (Int.le_refl _))) (And.intro trivial (Hp.keep H1)))
/-- Is something done on a day? -/
def openB (hs : List Int) (d : Int) : Bool := dayB d && (decide (d % 7 < 5) && !hs.contains d)
theorem weekAny (n : Int) (h : dayB n = true) (w : World) (M I : BS) (H : Hp ⟨w, M, I⟩ [] [] w) : Ctr Tryz.prog 87 [.int .i32 n] w M I (fun _ : Unit => .int .i64 (n % 7)) (fun _ => True) (fun _ => []) (fun _ => []) := week n h w M I H
theorem open_ (A : Option Addr) (n c : Nat) (hs : List Int) (d : Int) (w : World) (M I : BS) (H : Hp ⟨w, M, I⟩ [] [Sl dayR (.slice A n c) hs] w) :
    Ctr Tryz.prog 36 [.slice A n c, .int .i32 d] w M I (fun _ : Unit => .bool (openB hs d)) (fun _ => True) (fun _ => []) (fun _ => []) := by
  refine Exe.of_ev tok Tryz.call36 Tryz.func36 rfl rfl rfl ?_
  refine call_rule H (fun M I _ h => dayRight d _ M I h) fun _ w1 _ H1 => ?_
  refine br (fun q => ?_) (fun q => ?_)
  · have q : dayB d = true := q
    refine call_rule H1 (fun M I _ h => weekAny d q _ M I h) fun _ w2 _ H2 => ?_
    refine brd (fun q2 => ?_) (fun q2 => ?_)
    · refine call_rule H2 (fun M I _ h => contains A n c hs d _ M I h) fun _ w3 _ H3 => ?_
      refine Exists.intro () (And.intro (congrArg Value.bool ?_) (And.intro trivial (Hp.keep H3)))
      show (!hs.contains d) = openB hs d
      unfold openB; rw [q, decide_eq_true q2]; simp
    · refine Exists.intro () (And.intro (congrArg Value.bool ?_) (And.intro trivial (Hp.keep H2)))
      show false = openB hs d
      unfold openB; rw [decide_eq_false q2]; simp
  · have q : dayB d = false := q
    refine Exists.intro () (And.intro (congrArg Value.bool ?_) (And.intro trivial (Hp.keep H1)))
    show false = openB hs d
    unfold openB; rw [q]; rfl
/-- Do they rise? -/
def holyGo : Option Int → List Int → Bool
  | _, [] => true
  | p, x :: r => dayB x && ((match p with
    | none => true
    | some y => !decide (x ≤ y)) && holyGo (some x) r)
theorem holyGo_cons (p : Option Int) (x : Int) (r : List Int) : holyGo p (x :: r) = (dayB x && ((match p with
    | none => true
    | some y => !decide (x ≤ y)) && holyGo (some x) r)) := by cases p <;> rfl
def holyB (hs : List Int) : Bool := holyGo none hs && decide ((hs.length : Int) ≤ 200)
def prevOf (hs : List Int) : Nat → Option Int
  | 0 => none
  | i + 1 => hs[i]?
set_option maxHeartbeats 1000000 in
theorem holyRight (A : Option Addr) (n c : Nat) (hs : List Int) (w : World) (M I : BS) (H : Hp ⟨w, M, I⟩ [] [Sl dayR (.slice A n c) hs] w) :
    Ctr Tryz.prog 63 [.slice A n c] w M I (fun _ : Unit => .bool (holyB hs)) (fun _ => True) (fun _ => []) (fun _ => []) := by
  obtain ⟨hn, hc, hc2⟩ := H.sll (A := A) (n := n) (c := c)
  refine Exe.of_ev tok Tryz.call63 Tryz.func63 rfl rfl rfl ?_
  refine loop_rule tok (σ := Nat) 536870812 (fun i => [(7, .int .i64 (i : Int))]) (fun i w' => i ≤ n ∧ holyGo none hs = holyGo (prevOf hs i) (hs.drop i) ∧ Hp ⟨w, M, I⟩ [] [Sl dayR (.slice A n c) hs] w') (fun i => n - i) 0 rfl rfl ⟨rfl, trivial⟩ ⟨Nat.zero_le _, rfl, H⟩ ?_
  intro i j w1 hW
  have hi := hW.1
  have hg := hW.2.1
  have H1 := hW.2.2
  refine brd (fun hin => ?_) (fun hno => ?_)
  · have ew : IntKind.i64.wrap ((i : Int) + 1) = ((i + 1 : Nat) : Int) := w64 (by omega) (by omega)
    refine idx_rule tok H1 rfl rfl rfl (by omega) hin fun eb eo x hx H2 => ?_
    have hx' : hs[i]? = some x := by simpa using hx
    have hd := drop_one hx'
    rw [hd, holyGo_cons] at hg
    refine ld1_rule tok H2 (v := fun _ => .int .i32 x) rfl rfl (fun _ => rfl) fun _ _ H3 => ?_
    refine call_rule H3 (fun M I _ h => dayRight x _ M I h) fun _ w4 _ H4 => ?_
    have nxt : dayB x = true → (match prevOf hs i with
        | none => true
        | some y => !decide (x ≤ y)) = true → holyGo none hs = holyGo (prevOf hs (i + 1)) (hs.drop (i + 1)) := fun a b => by
      rw [hg, a, b]; simp only [Bool.true_and]
      show _ = holyGo hs[i]? _
      rw [hx']
    have done1 : dayB x = false → false = holyB hs := fun a => by unfold holyB; rw [hg, a]; rfl
    refine br (fun q => ?_) (fun q => ?_)
    · have q : dayB x = false := by have q : (!dayB x) = true := q; simpa using q
      exact Exists.intro () (And.intro (congrArg Value.bool (done1 q)) (And.intro trivial (Hp.keep H4)))
    have q : dayB x = true := by have q : (!dayB x) = false := q; simpa using q
    refine brd (fun hi0 => ?_) (fun hi0 => ?_)
    · have e1 : IntKind.i64.wrap ((i : Int) - 1) = (i : Int) - 1 := w64 (by omega) (by omega)
      have hi1 : i - 1 < hs.length := by omega
      have hp : prevOf hs i = some hs[i - 1] := by
        obtain ⟨k, rfl⟩ : ∃ k, i = k + 1 := ⟨i - 1, by omega⟩
        exact List.getElem?_eq_getElem hi1
      refine idx_rule tok H4 rfl rfl rfl (by omega) (by omega) fun eb2 eo2 y hy H5 => ?_
      have hy' : y = hs[i - 1] := by
        have e : (IntKind.i64.wrap ((i : Int) - 1)).toNat = i - 1 := by rw [e1]; omega
        rw [e, List.getElem?_eq_getElem hi1] at hy
        exact (Option.some.inj hy).symm
      refine ld1_rule tok H5 (v := fun _ => .int .i32 y) rfl rfl (fun _ => rfl) fun _ _ H6 => ?_
      refine brd (fun q2 => ?_) (fun q2 => ?_)
      · refine Exists.intro () (And.intro (congrArg Value.bool ?_) (And.intro trivial (Hp.keep H6)))
        show false = holyB hs
        unfold holyB; rw [hg, hp, ← hy']; simp [q2]
      · exact Exists.intro (i + 1) (And.intro ⟨congrArg (Value.int .i64) ew, trivial⟩ (And.intro (by show n - (i + 1) < n - i; omega) ⟨by omega, nxt q (by rw [hp, ← hy']; simp; omega), Hp.keep H6⟩))
    · have : i = 0 := by omega
      exact Exists.intro (i + 1) (And.intro ⟨congrArg (Value.int .i64) ew, trivial⟩ (And.intro (by show n - (i + 1) < n - i; omega) ⟨by omega, nxt q (by rw [this]; rfl), Hp.keep H4⟩))
  · refine Exists.intro () (And.intro (congrArg Value.bool ?_) (And.intro trivial (Hp.keep H1)))
    show decide ((n : Int) ≤ 200) = holyB hs
    unfold holyB
    rw [hg, List.drop_eq_nil_of_le (by omega), hn]; simp [holyGo]
end Go.Proofs.YtgbmambkgcjhfaaGreatDoor
