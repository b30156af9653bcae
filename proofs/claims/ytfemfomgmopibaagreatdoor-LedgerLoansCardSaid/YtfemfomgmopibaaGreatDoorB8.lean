/- The document's ledger: where a key is live, sums: the walks. -/
import Derived.Test.YtfemfomgmopibaaGreatDoorB7
namespace Go.Proofs.YtfemfomgmopibaaGreatDoor
open Go Go.Proofs Go.Wk
theorem lnR_get {xs : List Ln} {j : Nat} {x : Ln} (h : xs[j]? = some x) : ldV (tb 66) (lnsC xs) (0 + j * 6) = some (lnV x) := ln_get h
def liveSt (k : Key) (x : Ln) (i out : Int) : Int := if x.of = 0 then (if x.k = k then i else out) else (if x.of - 1 = out then -1 else out)
def liveGo (k : Key) : List Ln → Int → Int → Int
  | [], _, out => out
  | x :: r, i, out => liveGo k r (i + 1) (liveSt k x i out)
def LnsOk (xs : List Ln) : Prop := xs.length ≤ 1000 ∧ ∀ x, x ∈ xs → (0 ≤ x.of ∧ x.of ≤ 1000000) ∧ keyIn x.k ∧ x.ls.length ≤ 1000
set_option maxRecDepth 20000 in
theorem liveRef (p : Nat) (s : SV) (xs : List Ln) (hok : LnsOk xs) (hsn : s.n = xs.length) (k : Key) (w : World) (M I : BS)
    (H : Hp ⟨w, M, I⟩ [blk p [.slice s.A s.n s.c] 33, row 66 6 (.slice s.A s.n s.c) s.n (lnsC xs)] [] w) :
    Ctr Tryz.prog 54 [.pointer (some ⟨p, 0, none⟩), keyV k] w M I (fun _ : Unit => .int .i64 (liveGo k xs 0 (-1))) (fun _ => True) (fun _ => [blk p [.slice s.A s.n s.c] 33, row 66 6 (.slice s.A s.n s.c) s.n (lnsC xs)]) (fun _ => []) := by
  obtain ⟨A, n, c⟩ := s
  simp only at hsn H ⊢
  obtain ⟨hlen, hall⟩ := hok
  refine Exe.of_ev tok Tryz.call54 Tryz.func54 rfl rfl rfl ?_
  refine box_as H (keyC k) rfl fun kb w1 H1 => ?_
  refine load_rule tok H1 (v := .slice A n c) rfl ?_
  refine loop_rule tok (σ := Nat × Int) 1099511619808 (fun t => [(5, .int .i64 t.2), (13, .int .i64 t.1)])
    (fun t w' => t.1 ≤ xs.length ∧ liveGo k xs 0 (-1) = liveGo k (xs.drop t.1) t.1 t.2 ∧ Hp ⟨w, M, I⟩ [blk kb (keyC k) 61, blk p [.slice A n c] 33, row 66 6 (.slice A n c) n (lnsC xs)] [] w') (fun t => xs.length - t.1) (0, -1) rfl rfl ⟨rfl, rfl, trivial⟩
    ⟨Nat.zero_le _, rfl, H1⟩ ?_
  rintro ⟨i, out⟩ j w3 ⟨hi, hg, H3⟩
  simp only at hi hg H3
  refine brd (fun h5 => ?_) (fun h5 => ?_)
  · have h5 : (i : Int) < n := h5
    have hil : i < xs.length := by omega
    obtain ⟨u, hu⟩ : ∃ u, xs[i]? = some u := ⟨_, List.getElem?_eq_getElem hil⟩
    have hdu : xs.drop i = u :: xs.drop (i + 1) := by
      rw [List.drop_eq_getElem_cons hil]
      rw [List.getElem?_eq_getElem hil] at hu
      rw [Option.some.inj hu]
    obtain ⟨⟨ho1, ho2⟩, _, _⟩ := hall u (List.mem_of_getElem? hu)
    obtain ⟨b1, rfl⟩ := H3.rowSome (A := A) (n := n) (c := c) (by omega)
    have i1 : (0 : Int) ≤ (i : Int) := by omega
    have ew : IntKind.i64.wrap (u.of - 1) = u.of - 1 := w64 (by omega) (by omega)
    have fin : ∀ w', Hp ⟨w, M, I⟩ [blk kb (keyC k) 61, blk p [.slice (some ⟨b1, 0, none⟩) n c] 33, row 66 6 (.slice (some ⟨b1, 0, none⟩) n c) n (lnsC xs)] [] w' → ((i + 1, liveSt k u i out) : Nat × Int).1 ≤ xs.length ∧ liveGo k xs 0 (-1) = liveGo k (xs.drop (i + 1)) ((i + 1 : Nat) : Int) (liveSt k u i out) ∧ Hp ⟨w, M, I⟩ [blk kb (keyC k) 61, blk p [.slice (some ⟨b1, 0, none⟩) n c] 33, row 66 6 (.slice (some ⟨b1, 0, none⟩) n c) n (lnsC xs)] [] w' := fun w' h => by
      refine ⟨by simp only; omega, ?_, h⟩
      rw [hg, hdu, liveGo]; simp
    have hi64 : Value.int .i64 (IntKind.i64.wrap (i + 1)) = .int .i64 ((i + 1 : Nat) : Int) := by rw [w64 (by omega) (by omega)]; rfl
    have hmu : xs.length - (i + 1) < xs.length - i := by omega
    refine idx_own tok rfl rfl i1 h5 ?_
    refine row_ld (n := n) (c := c) tok H3 (v := lnV u) (lnR_get hu) ?_
    refine alloc_as tok H3 lnZ rfl rfl rfl fun t w4 H4 => ?_
    refine store_as tok H4 (lnC u) rfl rfl rfl rfl rfl fun w5 H5 => ?_
    refine load_rule tok H5 (v := .int .i64 u.of) rfl ?_
    refine br (fun q1 => ?_) (fun q1 => ?_)
    · have q1 : 0 < u.of := by simpa using q1
      have hne : ¬ u.of = 0 := by omega
      refine load_rule tok H5 (v := .int .i64 u.of) rfl ?_
      refine br (fun q2 => ?_) (fun q2 => ?_)
      · have q2 : (IntKind.i64.wrap (u.of - 1) == out) = true := q2
        have q2 : u.of - 1 = out := by rw [ew] at q2; simpa using q2
        have e : liveSt k u i out = -1 := by rw [liveSt, if_neg hne, if_pos q2]
        refine load_rule tok H5 (v := .int .i64 u.of) rfl ?_
        refine br (fun q3 => ?_) (fun q3 => ?_)
        · exfalso; have q3 : (u.of == 0) = true := q3; exact hne (by simpa using q3)
        · exact Exists.intro (i + 1, liveSt k u i out) (And.intro ⟨congrArg (Value.int .i64) e.symm, hi64, trivial⟩ (And.intro hmu (fin _ (Hp.keep H5))))
      · have q2 : (IntKind.i64.wrap (u.of - 1) == out) = false := q2
        have q2 : ¬ u.of - 1 = out := by rw [ew] at q2; simpa using q2
        have e : liveSt k u i out = out := by rw [liveSt, if_neg hne, if_neg q2]
        refine load_rule tok H5 (v := .int .i64 u.of) rfl ?_
        refine br (fun q3 => ?_) (fun q3 => ?_)
        · exfalso; have q3 : (u.of == 0) = true := q3; exact hne (by simpa using q3)
        · exact Exists.intro (i + 1, liveSt k u i out) (And.intro ⟨congrArg (Value.int .i64) e.symm, hi64, trivial⟩ (And.intro hmu (fin _ (Hp.keep H5))))
    · have q1 : ¬ 0 < u.of := by simpa using q1
      have he : u.of = 0 := by omega
      refine load_rule tok H5 (v := .int .i64 u.of) rfl ?_
      refine br (fun q3 => ?_) (fun q3 => ?_)
      · refine load_rule tok H5 (v := keyV u.k) rfl ?_
        refine load_rule tok H5 (v := keyV k) rfl ?_
        refine eq_struct tok (r := eqK u.k k) rfl Tryz.eqGuardType61 Tryz.stoodInHeld61 rfl ?_
        refine br (fun q4 => ?_) (fun q4 => ?_)
        · have q4 : eqK u.k k = true := q4
          have e : liveSt k u i out = i := by rw [liveSt, if_pos he, if_pos (eqK_iff.1 q4)]
          exact Exists.intro (i + 1, liveSt k u i out) (And.intro ⟨congrArg (Value.int .i64) e.symm, hi64, trivial⟩ (And.intro hmu (fin _ (Hp.keep H5))))
        · have q4 : eqK u.k k = false := q4
          have e : liveSt k u i out = out := by rw [liveSt, if_pos he, if_neg (fun h => by rw [eqK_iff.2 h] at q4; cases q4)]
          exact Exists.intro (i + 1, liveSt k u i out) (And.intro ⟨congrArg (Value.int .i64) e.symm, hi64, trivial⟩ (And.intro hmu (fin _ (Hp.keep H5))))
      · exfalso; have q3 : (u.of == 0) = false := q3; rw [he] at q3; simp at q3
  · have h5 : ¬ (i : Int) < n := h5
    refine Exists.intro () (And.intro (congrArg (Value.int .i64) ?_) (And.intro trivial (Hp.keep H3)))
    rw [hg, List.drop_eq_nil_of_le (by omega)]; rfl
end Go.Proofs.YtfemfomgmopibaaGreatDoor
