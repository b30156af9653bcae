/- Legs of any order make the document's entry: the plain law. -/
import Derived.Test.YtenpgmnknmnofaaDoorT15
import Derived.Test.YtenpgmnknmnofaaDoorT17
namespace Go.Proofs.YtenpgmnknmnofaaDoor
open Go Go.Proofs Go.Wk
theorem legsEq_self : ∀ l : List Leg, legsEq l l = true
  | [] => rfl
  | x :: r => by simp [legsEq, legEq, legsEq_self r]
theorem sumGo_len : ∀ {ls : List Leg} {m m' : List (Int × Int)}, sumGo ls m = some m' → m'.length ≤ m.length + ls.length
  | [], m, m', e => by simp only [sumGo, Option.some.injEq] at e; subst e; simp
  | l :: r, m, m', e => by
    unfold sumGo at e
    split at e
    · have h1 := sumGo_len e
      have h2 := len_putL (k := l.acct) (v := (lk l.acct m).getD 0 + l.amt) (l := m)
      simp only [List.length_cons]; omega
    · cases e
theorem makesLaw (k : Key) (hk : inK .u8 k.kind) (ls : List Leg) (hl : ls.length ≤ 12) (hr : ∀ x, x ∈ ls → inK .u8 x.acct) (hro : ∀ out, made ls out → ∀ x, x ∈ out → inK .u8 x.acct) (out : List Leg) (h : made ls out) : MakesOk k ls out := by
  have e := made_ref hr h
  refine ⟨?_, ?_, ?_, rights k hk ls hr⟩
  · unfold made at h
    cases hs : sumGo ls [] with
    | none => rw [hs] at h; rw [h]; simp
    | some m => rw [hs] at h; have := sumGo_len hs; have := h.1.length_eq; simp at *; omega
  · rw [← e]; simp [sameB, eqK, legsEq_self]
  · rw [← e]; exact rights k hk out (hro out h)
end Go.Proofs.YtenpgmnknmnofaaDoor
