/- An entry is read of its bytes again; what is read of bytes has these bytes: the plain law. -/
import Derived.Test.YtenpgmnknmnofaaDoorT39
import Derived.Test.YtenpgmnknmnofaaDoorT32
namespace Go.Proofs.YtenpgmnknmnofaaDoor
open Go Go.Proofs Go.Wk
theorem go_acct : ∀ {ls : List Leg} {s last : Int}, rightGo s last ls = true → ∀ x, x ∈ ls → inK .u8 x.acct → x.acct ≤ 9
  | [], _, _, _, x, hx, _ => by cases hx
  | y :: r, s, last, h, x, hx, hin => by
    unfold rightGo at h
    cases h1 : in64 (s + y.amt) <;> rw [h1] at h <;> simp only [cond_true, cond_false] at h
    · cases h
    · cases h2 : decide (y.acct ≤ last) <;> rw [h2] at h <;> simp only [cond_true, cond_false] at h
      · cases h3 : noB (accName y.acct) <;> rw [h3] at h <;> simp only [cond_true, cond_false] at h
        · rcases List.mem_cons.1 hx with rfl | hx
          · have hin : 0 ≤ x.acct ∧ x.acct ≤ 255 := hin
            rw [noB_acc x.acct hin.1 hin.2] at h3
            simp only [Bool.or_eq_false_iff, decide_eq_false_iff_not] at h3
            omega
          · exact go_acct h x hx hin
        · cases h
      · cases h
theorem right_facts {k : Key} {ls : List Leg} (hk : keyIn k) (hl : ∀ x, x ∈ ls → legIn x) (h : rightB k ls = true) : 0 ≤ k.day ∧ k.day ≤ 3652058 ∧ k.kind ≤ 7 ∧ ls.length ≤ 8 ∧ ∀ x, x ∈ ls → legIn x ∧ x.acct ≤ 9 := by
  have hgo := rightB_go h
  have hd := right_day h
  refine ⟨hd.1, ?_, ?_, hd.2.1, fun x hx => ⟨hl x hx, go_acct hgo x hx (hl x hx).1⟩⟩
  · unfold rightB at h
    cases h1 : noB (kindName k.kind) <;> rw [h1] at h <;> simp only [cond_true, cond_false] at h
    · cases h2 : dayB k.day <;> rw [h2] at h <;> simp only [Bool.not_true, Bool.not_false, cond_true, cond_false] at h
      · cases h
      · simp only [dayB, Bool.and_eq_true, decide_eq_true_eq] at h2
        exact h2.2
    · cases h
  · unfold rightB at h
    cases h1 : noB (kindName k.kind) <;> rw [h1] at h <;> simp only [cond_true, cond_false] at h
    · have hk3 : 0 ≤ k.kind ∧ k.kind ≤ 255 := hk.2.2.1
      rw [noB_kind k.kind hk3.1 hk3.2] at h1
      simp only [Bool.or_eq_false_iff, decide_eq_false_iff_not] at h1
      omega
    · cases h
theorem parse_ent {k : Key} {ls : List Leg} (hk : keyIn k) (hl : ∀ x, x ∈ ls → legIn x) (h : rightB k ls = true) : pK (entBytes k ls) = k ∧ pL (entBytes k ls) = ls ∧ pT (entBytes k ls) = ⟨[], false⟩ := by
  obtain ⟨h1, h2, h3, h4, h5⟩ := right_facts hk hl h
  obtain ⟨⟨k1, k2⟩, ⟨k3, k4⟩, ⟨k5, k6⟩, ⟨k7, k8⟩⟩ := hk
  simp only [kLo, kHi] at k1 k2 k3 k4 k5 k6 k7 k8
  have e1 : p1 (entBytes k ls) = (k.loan.toNat, ⟨numB k.day.toNat 0 ++ (numB k.kind.toNat 0 ++ (numB k.seq.toNat 0 ++ (numB ls.length 0 ++ legsB ls))), false⟩) := by
    unfold p1 entBytes
    simp only [List.append_assoc]
    exact uintR_numB (by omega) (by omega)
  have e2 : p2 (entBytes k ls) = (k.day.toNat, ⟨numB k.kind.toNat 0 ++ (numB k.seq.toNat 0 ++ (numB ls.length 0 ++ legsB ls)), false⟩) := by
    unfold p2
    rw [e1]
    exact uintR_numB (by omega) (by omega)
  have e3 : p3 (entBytes k ls) = (k.kind.toNat, ⟨numB k.seq.toNat 0 ++ (numB ls.length 0 ++ legsB ls), false⟩) := by
    unfold p3
    rw [e2]
    exact uintR_numB (by omega) (by omega)
  have e4 : p4 (entBytes k ls) = (k.seq.toNat, ⟨numB ls.length 0 ++ legsB ls, false⟩) := by
    unfold p4
    rw [e3]
    exact uintR_numB (by omega) (by omega)
  have e5 : p5 (entBytes k ls) = (ls.length, ⟨legsB ls ++ [], false⟩) := by
    unfold p5
    rw [e4, List.append_nil]
    exact uintR_numB (by omega) (by omega)
  have e6 := legsR_legsB (rest := []) h5
  refine ⟨?_, ?_, ?_⟩
  · unfold pK
    rw [e1, e2, e3, e4]
    obtain ⟨x1, x2, x3, x4⟩ := k
    simp only at *
    rw [show ((x1.toNat : Nat) : Int) = x1 by omega, show ((x2.toNat : Nat) : Int) = x2 by omega, show ((x3.toNat : Nat) : Int) = x3 by omega, show ((x4.toNat : Nat) : Int) = x4 by omega]
  · unfold pL
    rw [e5]
    simp only
    rw [e6]
  · unfold pT
    rw [e5]
    simp only
    rw [e6]
theorem parse_eq {bs : List Nat} (hb : byteIn bs) (h : (endOk (pT bs) && rightB (pK bs) (pL bs)) = true) : entBytes (pK bs) (pL bs) = bs := by
  rw [Bool.and_eq_true] at h
  have he := h.1
  unfold endOk at he
  simp only [Bool.and_eq_true, Bool.not_eq_true', beq_iff_eq] at he
  have b1 : byteIn (p1 bs).2.p := uintR_in hb
  have b2 : byteIn (p2 bs).2.p := uintR_in b1
  have b3 : byteIn (p3 bs).2.p := uintR_in b2
  have b4 : byteIn (p4 bs).2.p := uintR_in b3
  have b5 : byteIn (p5 bs).2.p := uintR_in b4
  obtain ⟨q5, r5, l5⟩ := legsR_eq (d := (p5 bs).1) b5 he.1
  obtain ⟨q4, r4⟩ := uintR_eq b4 q5
  obtain ⟨q3, r3⟩ := uintR_eq b3 q4
  obtain ⟨q2, r2⟩ := uintR_eq b2 q3
  obtain ⟨q1, r1⟩ := uintR_eq b1 q2
  obtain ⟨q0, r0⟩ := uintR_eq (t := ⟨bs, false⟩) hb q1
  have hnil : (pT bs).p = [] := List.length_eq_zero_iff.1 he.2
  have r5 : (p5 bs).2.p = legsB (pL bs) := by
    rw [r5]
    show _ ++ (pT bs).p = _
    rw [hnil, List.append_nil]; rfl
  have hlen : (pL bs).length = (p5 bs).1 := l5
  unfold entBytes
  simp only [pK, Int.toNat_natCast, List.append_assoc, hlen]
  rw [← r5, ← r4, ← r3, ← r2, ← r1]
  exact r0.symm
end Go.Proofs.YtenpgmnknmnofaaDoor
