/- Terms are read of words: the walk. -/
import Derived.Test.YtgbmambkgcjhfaaGreatDoorD26
set_option linter.unusedVariables false
namespace Go.Proofs.YtgbmambkgcjhfaaGreatDoor
open Go Go.Proofs Go.Wk Go.Pl
@[reducible] def tm0 : Tm := ⟨0, 0, 0, 0, 0, 0, 0, 0⟩
/-- What a reader of terms says. -/
def TmRd (l : List UInt8) (a : Tm × Er) : Prop :=
  (a.2 = none ∧ TmOk a.1 ∧ TmIn a.1 ∧ TmT a.1 (strOf l)) ∨ (a.2 = erN 15 ∧ a.1 = tm0 ∧ ∀ t, TmOk t → TmIn t → ¬ TmT t (strOf l))
@[reducible] def teV (a : Tm × Er) : Value := .tuple #[tmV a.1, erV a.2]
theorem tm_split {t : Tm} (ok : TmOk t) (hin : TmIn t) {l : List UInt8} (h : TmT t (strOf l)) : Lib.count l [32] = 7 ∧ ∃ y m d, Dat y m d ∧ numD y m d = t.start ∧ Lib.splitK [32] 0 (Lib.count l [32]) l = tmWords t (datL y m d) := by
  obtain ⟨y, m, d, hD, hn, hs⟩ := h
  have e := strOf_inj hs
  have h0 : 0 ≤ t.parts := hin.parts.1
  rw [e]
  exact ⟨words_count ok h0 hD, y, m, d, hD, hn, words_split ok h0 hD⟩
theorem tmReadNo (l : List UInt8) (hs : l.length < 4294967281) (n : Nat) (hn : Lib.count l [32] = n) (h8 : n ≠ 7) (w : World) (M I : BS) (H : Hp ⟨w, M, I⟩ [] [LibF] w) :
    Ctr Tryz.prog 37 [.string (strOf l)] w M I teV (TmRd l) (fun _ => []) (fun _ => []) := by
  refine Exe.of_ev tok Tryz.call37 Tryz.func37 rfl rfl rfl ?_
  refine alloc_as tok H (tmC tm0) rfl rfl rfl fun r w1 H1 => ?_
  refine call_rule H1 (fun M I _ h => splitN l hs n hn _ M I h) fun g w2 _ H2 => ?_
  refine br (fun q => ?_) (fun q => ?_)
  · refine store_as tok H2 (tmC tm0) rfl rfl rfl rfl rfl fun w3 H3 => ?_
    refine Exists.intro ⟨r, 0, none⟩ (Exists.intro (tmV tm0) (And.intro rfl (And.intro (Hp.ld (T := tb) tok H3 rfl) ?_)))
    exact Exists.intro (tm0, erN 15) (And.intro rfl (And.intro (.inr ⟨rfl, rfl, fun t ok hin h => h8 (hn ▸ (tm_split ok hin h).1)⟩) (Hp.keep H3)))
  · have q : (!(((n + 1 : Nat) : Int) == 8)) = false := q
    have e : (((n + 1 : Nat) : Int) == 8) = true := by simpa using q
    have e := eq_of_beq e
    exact absurd (by omega) h8
set_option maxHeartbeats 4000000 in
set_option maxRecDepth 20000 in
theorem tmRead8 (l : List UInt8) (hs : l.length < 4294967281) (l0 l1 l2 l3 l4 l5 l6 l7 : List UInt8) (hsp : Lib.splitK [32] 0 (Lib.count l [32]) l = [l0, l1, l2, l3, l4, l5, l6, l7]) (h7 : Lib.count l [32] = 7) (w : World) (M I : BS) (hM : ∀ b, ¬ M b) (H : Hp ⟨w, M, I⟩ [] [LibF] w) :
    Ctr Tryz.prog 37 [.string (strOf l)] w M I teV (TmRd l) (fun _ => []) (fun _ => []) := by
  have hle : ∀ x, x ∈ [l0, l1, l2, l3, l4, l5, l6, l7] → x.length ≤ l.length := fun x hx => by rw [← hsp] at hx; exact splitK_le _ _ _ _ hx
  have e1 := hle l1 (by simp)
  have e2 := hle l2 (by simp)
  have e4 := hle l4 (by simp)
  have e6 := hle l6 (by simp)
  have e7 := hle l7 (by simp)
  have hne : l ≠ [] := fun e => by rw [e] at h7; cases h7
  refine Exe.of_ev tok Tryz.call37 Tryz.func37 rfl rfl rfl ?_
  refine alloc_as tok H (tmC tm0) rfl rfl rfl fun r w1 H1 => ?_
  refine call_rule H1 (fun M I _ hh => split8 l hs l0 l1 l2 l3 l4 l5 l6 l7 hsp h7 _ M I hh) fun g w2 _ H2 => ?_
  refine idx_own tok rfl rfl (by decide) (by decide) ?_
  refine load_rule tok H2 (v := .string (strOf l1)) rfl ?_
  refine call_rule H2 (fun M I _ h => coinRead l1 (by omega) _ M I h) fun a1 w3 r1 H3 => ?_
  refine idx_own tok rfl rfl (by decide) (by decide) ?_
  refine load_rule tok H3 (v := .string (strOf l2)) rfl ?_
  refine call_rule H3 (fun M I _ h => parseUE l2 (by omega) _ M I h) fun a2 w4 r2 H4 => ?_
  refine idx_own tok rfl rfl (by decide) (by decide) ?_
  refine load_rule tok H4 (v := .string (strOf l4)) rfl ?_
  refine call_rule H4 (fun M I _ h => atoiE l4 (by omega) _ M I h) fun a4 w5 r4 H5 => ?_
  refine idx_own tok rfl rfl (by decide) (by decide) ?_
  refine load_rule tok H5 (v := .string (strOf l5)) rfl ?_
  refine call_rule H5 (fun M I _ h => dayRead (strOf l5) _ M I h) fun a5 w6 r5 H6 => ?_
  refine idx_own tok rfl rfl (by decide) (by decide) ?_
  refine load_rule tok H6 (v := .string (strOf l6)) rfl ?_
  refine call_rule H6 (fun M I _ h => coinRead l6 (by omega) _ M I h) fun a6 w7 r6 H7 => ?_
  refine idx_own tok rfl rfl (by decide) (by decide) ?_
  refine load_rule tok H7 (v := .string (strOf l7)) rfl ?_
  refine call_rule H7 (fun M I _ h => atoiE l7 (by omega) _ M I h) fun a7 w8 r7 H8 => ?_
  have H8 : Hp ⟨w, M, I⟩ [blk g [.string (strOf l0), .string (strOf l1), .string (strOf l2), .string (strOf l3), .string (strOf l4), .string (strOf l5), .string (strOf l6), .string (strOf l7)] 9, blk r (tmC tm0) 28] [LibF] w8 := Hp.keep H8
  have R : RdW l0 l1 l2 l3 l4 l5 l6 l7 a1 a2 a4 a5 a6 a7 := ⟨r1, r2, r4, r5, r6, r7⟩
  refine draw_rule (A := []) tok tdr H8 [0, 1, 2, 3, 7, 8, 9, 10, 4, 5, 6, 11, 12, 13, 14, 15, 16, 17, 18] [0, 1, 3, 7, 0, 0, 32, 0, 128, 384, 911, 2031, 0, 0, 0, 0, 65535, 0, 262143] rfl ?_
  refine pass_rule _ (fun w h => idx_own tok rfl rfl (by decide) (by decide) ⟨rfl, rfl⟩) ?_
  refine pass_rule _ (fun w h => load_rule tok h (v := .string (strOf l0)) rfl ⟨rfl, rfl⟩) ?_
  refine imp_rule (fun X wx hx => call_rule hx (fun M I _ h => levelKind (strOf l0) _ M I h) fun _ w1 _ H1 => imp_done H1 ?_)
  refine pass_rule _ (fun w h => idx_own tok rfl rfl (by decide) (by decide) ⟨rfl, rfl⟩) ?_
  refine pass_rule _ (fun w h => load_rule tok h (v := .string (strOf l3)) rfl ⟨rfl, rfl⟩) ?_
  refine imp_rule (fun X wx hx => call_rule hx (fun M I _ h => spanBasis (strOf l3) _ M I h) fun _ w1 _ H1 => imp_done H1 ?_)
  refine fresh_alloc tok rfl rfl rfl fun b => ?_
  refine imp_rule (fun X wx hx => store_as tok hx (tmC (rdT l0 l3 a1 a2 a4 a5 a6 a7)) rfl rfl rfl rfl rfl fun w1 H1 => imp_done H1 ?_)
  refine done_rule fun w9 H9 => ?_
  refine slice_as tok H9 [erV a1.2, erV a2.2, erV a4.2, erV a5.2, erV a6.2, erV a7.2] rfl rfl rfl (seq6 a1.2 a2.2 a4.2 a5.2 a6.2 a7.2) rfl rfl fun g2 w10 H10 => ?_
  have H11 := H10.frzBlk (n := g2) errR [a1.2, a2.2, a4.2, a5.2, a6.2, a7.2] hM (by show 6 ≤ 9223372036854775807; decide) rfl (fun i x hx => ⟨(), trivial, by
    rcases i with _ | _ | _ | _ | _ | _ | i
    · injection hx with hx; rw [← hx]; rfl
    · injection hx with hx; rw [← hx]; rfl
    · injection hx with hx; rw [← hx]; rfl
    · injection hx with hx; rw [← hx]; rfl
    · injection hx with hx; rw [← hx]; rfl
    · injection hx with hx; rw [← hx]; rfl
    · simp at hx, rfl⟩)
  have HX : Hp ⟨w, M, I⟩ [blk b (tmC (rdT l0 l3 a1 a2 a4 a5 a6 a7)) 28, blk r (tmC tm0) 28] [Sl errR (.slice (some ⟨g2, 0, none⟩) 6 6) [a1.2, a2.2, a4.2, a5.2, a6.2, a7.2], LibF] w10 := Hp.keep (show Hp ⟨w, M, I⟩ [blk b (tmC (rdT l0 l3 a1 a2 a4 a5 a6 a7)) 28, blk g [.string (strOf l0), .string (strOf l1), .string (strOf l2), .string (strOf l3), .string (strOf l4), .string (strOf l5), .string (strOf l6), .string (strOf l7)] 9, blk r (tmC tm0) 28] [Sl errR (.slice (some ⟨g2, 0, none⟩) 6 6) [a1.2, a2.2, a4.2, a5.2, a6.2, a7.2], LibF] w10 from H11)
  have hcmp : ∀ t, TmOk t → TmIn t → TmT t (strOf l) → a1.2 = none ∧ a2.2 = none ∧ a4.2 = none ∧ a5.2 = none ∧ a6.2 = none ∧ a7.2 = none ∧ rdT l0 l3 a1 a2 a4 a5 a6 a7 = t := fun t ok hin ht => by
    obtain ⟨_, y, m, d, hD, hn, he⟩ := tm_split ok hin ht
    exact rd_of ok hin hD hn R (hsp.symm.trans he)
  have hz : cntE [a1.2, a2.2, a4.2, a5.2, a6.2, a7.2] = 0 ↔ ∀ x, x ∈ [a1.2, a2.2, a4.2, a5.2, a6.2, a7.2] → x = none := cntE_zero _
  have hzz : (∃ t, TmOk t ∧ TmIn t ∧ TmT t (strOf l)) → cntE [a1.2, a2.2, a4.2, a5.2, a6.2, a7.2] = 0 := fun ⟨t, ok, hin, ht⟩ => by
    obtain ⟨n1, n2, n4, n5, n6, n7, _⟩ := hcmp t ok hin ht
    rw [n1, n2, n4, n5, n6, n7]; rfl
  refine Or.elim (Classical.em (cntE [a1.2, a2.2, a4.2, a5.2, a6.2, a7.2] = 0)) (fun h0 => ?_) (fun h0 => ?_)
  · have hall := hz.1 h0
    have n1 := hall a1.2 (by simp)
    have n2 := hall a2.2 (by simp)
    have n4 := hall a4.2 (by simp)
    have n5 := hall a5.2 (by simp)
    have n6 := hall a6.2 (by simp)
    have n7 := hall a7.2 (by simp)
    have hin := rd_in R n1 n4 n5 n6 n7
    refine call_rule HX (fun M I _ h => joinE0 (some ⟨g2, 0, none⟩) 6 6 [a1.2, a2.2, a4.2, a5.2, a6.2, a7.2] (by show 6 ≤ 100; decide) h0 _ M I h) fun _ w11 _ H12 => ?_
    refine Exists.elim (⟨_, rfl⟩ : ∃ T, T = rdT l0 l3 a1 a2 a4 a5 a6 a7) fun T hT => ?_
    rw [← hT] at hin H12
    rw [← hT] at hcmp
    refine load_rule tok H12 (v := tmV T) (by rw [hT]; rfl) ?_
    refine Or.elim (Classical.em (tmB T = true)) (fun hb => ?_) (fun hb => ?_)
    · refine call_rule H12 (fun M I _ h => tmText T hin hb (tmB_iff.1 hb) _ M I h) fun s w12 hs' H13 => ?_
      refine br (fun q => ?_) (fun q => ?_)
      · have q : (!eqS s (strOf l)) = true := q
        refine store_as tok H13 (tmC tm0) rfl rfl rfl rfl rfl fun w13 H14 => ?_
        refine Exists.intro ⟨r, 0, none⟩ (Exists.intro (tmV tm0) (And.intro rfl (And.intro (Hp.ld (T := tb) tok H14 rfl) ?_)))
        refine Exists.intro (tm0, erN 15) (And.intro rfl (And.intro (.inr ⟨rfl, rfl, fun t ok hin2 h => ?_⟩) (Hp.keep H14)))
        have e := (hcmp t ok hin2 h).2.2.2.2.2.2
        rw [e] at hs'
        rw [hs'.uniq h, eqS_strOf, decide_eq_true rfl] at q
        cases q
      · have q : (!eqS s (strOf l)) = false := q
        have e : s = strOf l := by
          have h1 : eqS (strOf s.data.toList) (strOf l) = true := by rw [strOf_of]; simpa using q
          rw [eqS_strOf] at h1
          rw [← of_decide_eq_true h1, strOf_of]
        refine load_rule tok H13 (v := tmV T) rfl ?_
        refine store_as tok H13 (tmC T) rfl rfl rfl rfl rfl fun w13 H14 => ?_
        refine Exists.intro ⟨r, 0, none⟩ (Exists.intro (tmV T) (And.intro rfl (And.intro (Hp.ld (T := tb) tok H14 rfl) ?_)))
        exact Exists.intro (T, none) (And.intro rfl (And.intro (.inl ⟨rfl, tmB_iff.1 hb, hin, e ▸ hs'⟩) (Hp.keep H14)))
    · have hb : tmB T = false := by simpa using hb
      refine call_rule H12 (fun M I _ h => tmTextNo T hb _ M I h) fun _ w12 _ H13 => ?_
      refine br (fun q => ?_) (fun q => ?_)
      · refine store_as tok H13 (tmC tm0) rfl rfl rfl rfl rfl fun w13 H14 => ?_
        refine Exists.intro ⟨r, 0, none⟩ (Exists.intro (tmV tm0) (And.intro rfl (And.intro (Hp.ld (T := tb) tok H14 rfl) ?_)))
        refine Exists.intro (tm0, erN 15) (And.intro rfl (And.intro (.inr ⟨rfl, rfl, fun t ok hin2 h => ?_⟩) (Hp.keep H14)))
        have e := (hcmp t ok hin2 h).2.2.2.2.2.2
        rw [e, tmB_iff.2 ok] at hb
        cases hb
      · have q : (!eqS ⟨#[]⟩ (strOf l)) = false := q
        have h1 : eqS (strOf []) (strOf l) = true := by
          have : eqS ⟨#[]⟩ (strOf l) = true := by simpa using q
          exact this
        rw [eqS_strOf] at h1
        exact absurd (of_decide_eq_true h1).symm hne
  · refine call_rule HX (fun M I _ h => joinE1 (some ⟨g2, 0, none⟩) 6 6 [a1.2, a2.2, a4.2, a5.2, a6.2, a7.2] (by show 6 ≤ 100; decide) h0 _ M I h) fun _ w11 _ H12 => ?_
    refine store_as tok H12 (tmC tm0) rfl rfl rfl rfl rfl fun w13 H14 => ?_
    refine Exists.intro ⟨r, 0, none⟩ (Exists.intro (tmV tm0) (And.intro rfl (And.intro (Hp.ld (T := tb) tok H14 rfl) ?_)))
    exact Exists.intro (tm0, erN 15) (And.intro rfl (And.intro (.inr ⟨rfl, rfl, fun t ok hin2 h => h0 (hzz ⟨t, ok, hin2, h⟩)⟩) (Hp.keep H14)))
/-- Terms are read of words. -/
theorem tmRead (l : List UInt8) (hs : l.length < 4294967281) (w : World) (M I : BS) (hM : ∀ b, ¬ M b) (H : Hp ⟨w, M, I⟩ [] [LibF] w) :
    Ctr Tryz.prog 37 [.string (strOf l)] w M I teV (TmRd l) (fun _ => []) (fun _ => []) := by
  by_cases h7 : Lib.count l [32] = 7
  · have hlen : (Lib.splitK [32] 0 (Lib.count l [32]) l).length = 8 := by
      have e := Lib.splitB_data ⟨#[32]⟩ 0 7 (strOf l)
      have e2 := Lib.splitB_all ⟨#[32]⟩ (by decide) 0 7 (strOf l) (by show Lib.count (strOf l).data.toList [32] = 7; rw [strOf_data]; exact h7)
      rw [strOf_data] at e
      have e3 := congrArg List.length e
      rw [List.length_map, e2] at e3
      rw [h7]
      exact e3.symm
    obtain ⟨l0, l1, l2, l3, l4, l5, l6, l7, h⟩ : ∃ l0 l1 l2 l3 l4 l5 l6 l7, Lib.splitK [32] 0 (Lib.count l [32]) l = [l0, l1, l2, l3, l4, l5, l6, l7] := by
      match Lib.splitK [32] 0 (Lib.count l [32]) l, hlen with
      | [l0, l1, l2, l3, l4, l5, l6, l7], _ => exact ⟨l0, l1, l2, l3, l4, l5, l6, l7, rfl⟩
    exact tmRead8 l hs l0 l1 l2 l3 l4 l5 l6 l7 h h7 w M I hM H
  · exact tmReadNo l hs _ rfl h7 w M I H
end Go.Proofs.YtgbmambkgcjhfaaGreatDoor
