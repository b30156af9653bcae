/- The first days, rising from one on: the walk. -/
import Derived.Test.YtgbmambkgcjhfaaGreatDoorD13
set_option linter.unusedVariables false
namespace Go.Proofs.YtgbmambkgcjhfaaGreatDoor
open Go Go.Proofs Go.Wk
/-- The days, each so many behind the one ahead. -/
def fewD : List Int → Int → List Int
  | [], _ => []
  | x :: r, at_ => (at_ + (1 + x % 40)) :: fewD r (at_ + (1 + x % 40))
def fewE : List Int → Int → Int
  | [], at_ => at_
  | x :: r, at_ => fewE r (at_ + (1 + x % 40))
theorem fewD_snoc : ∀ (l : List Int) (x at_ : Int), fewD (l ++ [x]) at_ = fewD l at_ ++ [fewE l at_ + (1 + x % 40)] ∧ fewE (l ++ [x]) at_ = fewE l at_ + (1 + x % 40)
  | [], x, at_ => ⟨rfl, rfl⟩
  | y :: r, x, at_ => by
    obtain ⟨h1, h2⟩ := fewD_snoc r x (at_ + (1 + y % 40))
    simp only [List.cons_append, fewD, fewE, h1, h2, and_self]
theorem fewD_len : ∀ (l : List Int) (at_ : Int), (fewD l at_).length = l.length
  | [], _ => rfl
  | x :: r, at_ => by rw [fewD, List.length_cons, List.length_cons, fewD_len r]
theorem fewE_bd : ∀ (l : List Int) (at_ : Int), at_ ≤ fewE l at_ ∧ fewE l at_ ≤ at_ + 40 * (l.length : Int)
  | [], at_ => by simp [fewE]
  | x :: r, at_ => by
    have := fewE_bd r (at_ + (1 + x % 40))
    simp only [fewE, List.length_cons]; omega
/-- They rise, all behind the first one. -/
theorem fewD_holy : ∀ (l : List Int) (at_ : Int) (p : Option Int), 0 ≤ at_ → at_ + 40 * (l.length : Int) ≤ 3652058 → (∀ y, p = some y → y ≤ at_) → holyGo p (fewD l at_) = true
  | [], _, p, _, _, _ => by cases p <;> rfl
  | x :: r, at_, p, h0, h1, hp => by
    simp only [List.length_cons] at h1
    have ih := fewD_holy r (at_ + (1 + x % 40)) (some (at_ + (1 + x % 40))) (by omega) (by omega) (fun y hy => by rw [← Option.some.inj hy]; exact Int.le_refl _)
    rw [fewD, holyGo_cons, ih]
    have hd : dayB (at_ + (1 + x % 40)) = true := by simp only [dayB, Bool.and_eq_true, decide_eq_true_eq]; omega
    rw [hd]
    cases p with
    | none => rfl
    | some y => have := hp y rfl; simp; omega
@[reducible] def u8R : Rp Int := Go.Wk.intR .u8
@[reducible] def dayC (x : Int) : List Value := [.int .i32 x]
set_option maxRecDepth 20000 in
set_option maxHeartbeats 1000000 in
theorem few_ (A : Option Addr) (n c : Nat) (l : List Int) (from_ : Int) (h0 : 0 ≤ from_) (h1 : from_ ≤ 3600000) (w : World) (M I : BS) (hM : ∀ b, ¬ M b) (H : Hp ⟨w, M, I⟩ [] [Sl u8R (.slice A n c) l] w) :
    Ctr Tryz.prog 26 [.slice A n c, .int .i32 from_] w M I (fun a : SV × SV => .tuple #[.slice a.1.A a.1.n a.1.c, .slice a.2.A a.2.n a.2.c]) (fun _ => True) (fun _ => []) (fun a => [Sl dayR (.slice a.1.A a.1.n a.1.c) (fewD (l.take 40) from_), Sl (Go.Wk.intR .i64) (.slice a.2.A a.2.n a.2.c) (fewD (l.take 40) from_)]) := by
  obtain ⟨hn, hc, hc2⟩ := H.sll (A := A) (n := n) (c := c)
  have H0 : Hp ⟨w, M, I⟩ [row 26 1 (.slice none 0 0) 0 (flatL dayC []), row 3 1 (.slice none 0 0) 0 (flatL i64C [])] [Sl u8R (.slice A n c) l] w := Hp.nil (Hp.nil H 3 1) 26 1
  refine Exe.of_ev tok Tryz.call26 Tryz.func26 rfl rfl rfl ?_
  refine loop_rule tok (σ := Nat × SV × SV) 137438939072 (fun s => [(6, .slice s.2.1.A (min s.1 40) s.2.1.c), (7, .slice s.2.2.A (min s.1 40) s.2.2.c), (8, .int .i32 (fewE (l.take (min s.1 40)) from_)), (14, .int .i64 (s.1 : Int))])
    (fun s w' => s.1 ≤ n ∧ Hp ⟨w, M, I⟩ [row 26 1 (.slice s.2.1.A (min s.1 40) s.2.1.c) (min s.1 40) (flatL dayC (fewD (l.take (min s.1 40)) from_)), row 3 1 (.slice s.2.2.A (min s.1 40) s.2.2.c) (min s.1 40) (flatL i64C (fewD (l.take (min s.1 40)) from_))] [Sl u8R (.slice A n c) l] w') (fun s => n - s.1) (0, ⟨none, 0, 0⟩, ⟨none, 0, 0⟩) rfl rfl ⟨rfl, rfl, rfl, rfl, trivial⟩ ⟨Nat.zero_le _, H0⟩ ?_
  intro s j w1 hW
  have hi := hW.1
  have H1 := hW.2
  refine brd (fun hlt => ?_) (fun hge => ?_)
  · have ew : IntKind.i64.wrap ((s.1 : Int) + 1) = ((s.1 + 1 : Nat) : Int) := w64 (by omega) (by omega)
    refine idx_rule tok H1 rfl rfl rfl (by omega) hlt fun eb eo x hx H2 => ?_
    have hx' : l[s.1]? = some x := by simpa using hx
    refine ld1_rule tok H2 (v := fun _ => .int .u8 x) rfl rfl (fun _ => rfl) fun _ hok H3 => ?_
    obtain ⟨hx0, hx1⟩ := hok
    simp only [kLo, kHi] at hx0 hx1
    refine brd (fun h40 => ?_) (fun h40 => ?_)
    · have em : min s.1 40 = s.1 := by omega
      have em1 : min (s.1 + 1) 40 = s.1 + 1 := by omega
      have htk : l.take (s.1 + 1) = l.take s.1 ++ [x] := by rw [List.take_add_one, hx']; rfl
      have hsn := fewD_snoc (l.take s.1) x from_
      have hbd := fewE_bd (l.take s.1) from_
      have hlt2 : (l.take s.1).length ≤ 40 := by rw [List.length_take]; omega
      have er : x.tmod 40 = x % 40 := Int.tmod_eq_emod_of_nonneg hx0
      have e1 : IntKind.i32.wrap (x % 40) = x % 40 := i32w (by omega) (by omega)
      have e2 : IntKind.i32.wrap (1 + x % 40) = 1 + x % 40 := i32w (by omega) (by omega)
      have e3 : IntKind.i32.wrap (fewE (l.take s.1) from_ + (1 + x % 40)) = fewE (l.take s.1) from_ + (1 + x % 40) := i32w (by omega) (by omega)
      have e4 : IntKind.i64.wrap (fewE (l.take s.1) from_ + (1 + x % 40)) = fewE (l.take s.1) from_ + (1 + x % 40) := i64w (by omega) (by omega)
      have eall : IntKind.i32.wrap (fewE (l.take (min s.1 40)) from_ + IntKind.i32.wrap (1 + IntKind.i32.wrap (x % 40))) = fewE (l.take s.1) from_ + (1 + x % 40) := by rw [em, e1, e2, e3]
      refine rem_as (x % 40) (by decide) er ?_
      refine slice_as tok H3 (dayC (IntKind.i32.wrap (fewE (l.take (min s.1 40)) from_ + IntKind.i32.wrap (1 + IntKind.i32.wrap (x % 40))))) rfl rfl rfl rfl rfl rfl fun g w2 H4 => ?_
      refine append_rule (v := .slice s.2.1.A (min s.1 40) s.2.1.c) (b := g) (m := 1) (c := 1) tok H4 rfl rfl rfl rfl rfl rfl rfl rfl (by show (min s.1 40 + 1) * 4 ≤ _; omega) (by omega) fun A2 c2 w3 H5 => ?_
      refine slice_as tok H5 (i64C (IntKind.i64.wrap (IntKind.i32.wrap (fewE (l.take (min s.1 40)) from_ + IntKind.i32.wrap (1 + IntKind.i32.wrap (x % 40)))))) rfl rfl rfl rfl rfl rfl fun g2 w4 H6 => ?_
      refine append_rule (v := .slice s.2.2.A (min s.1 40) s.2.2.c) (b := g2) (m := 1) (c := 1) tok H6 rfl rfl rfl rfl rfl rfl rfl rfl (by show (min s.1 40 + 1) * 8 ≤ _; omega) (by omega) fun A3 c3 w5 H7 => ?_
      rw [eall, e4] at H7
      have H8 : Hp ⟨w, M, I⟩ [row 26 1 (.slice A2 (min s.1 40 + 1) c2) (min s.1 40 + 1) (flatL dayC (fewD (l.take (min s.1 40)) from_) ++ dayC (fewE (l.take s.1) from_ + (1 + x % 40))), row 3 1 (.slice A3 (min s.1 40 + 1) c3) (min s.1 40 + 1) (flatL i64C (fewD (l.take (min s.1 40)) from_) ++ i64C (fewE (l.take s.1) from_ + (1 + x % 40)))] [Sl u8R (.slice A n c) l] w5 := Hp.keep H7
      rw [em, ← flatL_snoc, ← flatL_snoc, ← hsn.1, ← htk] at H8
      refine Exists.intro (s.1 + 1, ⟨A2, 0, c2⟩, ⟨A3, 0, c3⟩) (And.intro ⟨congrArg (fun k => Value.slice A2 k c2) (by omega), congrArg (fun k => Value.slice A3 k c3) (by omega), congrArg (Value.int .i32) (by rw [em1, htk, hsn.2]; exact eall), congrArg (Value.int .i64) ew, trivial⟩ (And.intro (by show n - (s.1 + 1) < n - s.1; omega) ⟨by show s.1 + 1 ≤ n; omega, ?_⟩))
      show Hp ⟨w, M, I⟩ [row 26 1 (.slice A2 (min (s.1 + 1) 40) c2) (min (s.1 + 1) 40) (flatL dayC (fewD (l.take (min (s.1 + 1) 40)) from_)), row 3 1 (.slice A3 (min (s.1 + 1) 40) c3) (min (s.1 + 1) 40) (flatL i64C (fewD (l.take (min (s.1 + 1) 40)) from_))] [Sl u8R (.slice A n c) l] w5
      rw [em1]; exact H8
    · have em : min s.1 40 = 40 := by omega
      have em1 : min (s.1 + 1) 40 = 40 := by omega
      refine Exists.intro (s.1 + 1, s.2) (And.intro ⟨congrArg (fun k => Value.slice s.2.1.A k s.2.1.c) (by omega), congrArg (fun k => Value.slice s.2.2.A k s.2.2.c) (by omega), congrArg (fun k => Value.int .i32 (fewE (l.take k) from_)) (by omega), congrArg (Value.int .i64) ew, trivial⟩ (And.intro (by show n - (s.1 + 1) < n - s.1; omega) ⟨by show s.1 + 1 ≤ n; omega, ?_⟩))
      show Hp ⟨w, M, I⟩ [row 26 1 (.slice s.2.1.A (min (s.1 + 1) 40) s.2.1.c) (min (s.1 + 1) 40) (flatL dayC (fewD (l.take (min (s.1 + 1) 40)) from_)), row 3 1 (.slice s.2.2.A (min (s.1 + 1) 40) s.2.2.c) (min (s.1 + 1) 40) (flatL i64C (fewD (l.take (min (s.1 + 1) 40)) from_))] [Sl u8R (.slice A n c) l] w1
      have H4 := H3
      rw [em] at H4
      rw [em1]; exact Hp.keep H4
  · have e : s.1 = n := by omega
    have et : l.take (min s.1 40) = l.take 40 := by
      rw [e, hn]
      by_cases h : l.length ≤ 40
      · rw [Nat.min_eq_left h, List.take_length, List.take_of_length_le h]
      · rw [Nat.min_eq_right (by omega)]
    have hb : ∀ x, x ∈ fewD (l.take 40) from_ → 0 ≤ x ∧ x ≤ 3700000 := by
      have key : ∀ (l : List Int) (a : Int), ∀ x, x ∈ fewD l a → a ≤ x ∧ x ≤ a + 40 * (l.length : Int) := by
        intro l
        induction l with
        | nil => intro a x hx; cases hx
        | cons y r ih =>
          intro a x hx
          rcases List.mem_cons.1 hx with rfl | hx
          · simp only [List.length_cons]; omega
          · have := ih _ x hx
            simp only [List.length_cons]; omega
      intro x hx
      have := key _ _ x hx
      have hl : (l.take 40).length ≤ 40 := by rw [List.length_take]; omega
      omega
    rw [et] at H1
    have H2 := Hp.frzFlat (v := .slice s.2.1.A (min s.1 40) s.2.1.c) H1 1 dayC (fun _ => rfl) (fun x => inK .i32 x) hM (by decide) (fun x hx => by have := hb x hx; exact ⟨by show (-2147483648 : Int) ≤ x; omega, by show x ≤ (2147483647 : Int); omega⟩)
    have H3 := Hp.frzFlat (v := .slice s.2.2.A (min s.1 40) s.2.2.c) H2 1 i64C (fun _ => rfl) (fun x => inK .i64 x) hM (by decide) (fun x hx => by have := hb x hx; exact ⟨by show (-9223372036854775808 : Int) ≤ x; omega, by show x ≤ (9223372036854775807 : Int); omega⟩)
    exact Exists.intro (⟨s.2.1.A, min s.1 40, s.2.1.c⟩, ⟨s.2.2.A, min s.1 40, s.2.2.c⟩) (And.intro rfl (And.intro trivial (Hp.keep H3)))
end Go.Proofs.YtgbmambkgcjhfaaGreatDoor
