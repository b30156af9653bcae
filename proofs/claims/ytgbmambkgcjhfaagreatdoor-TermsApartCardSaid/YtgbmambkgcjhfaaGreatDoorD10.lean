/- A schedule month by month: the walk. -/
import Derived.Test.YtgbmambkgcjhfaaGreatDoorD9
set_option linter.unusedVariables false
namespace Go.Proofs.YtgbmambkgcjhfaaGreatDoor
open Go Go.Proofs Go.Wk
theorem bsGo_true (f : Int → Bool) : ∀ (k : Nat) (lo hi : Int), lo ≤ hi → hi - lo ≤ k → f hi = true → f (bsGo f k lo hi) = true
  | 0, lo, hi, h1, h2, h3 => by
    have e : hi = lo := by omega
    rw [bsGo, ← e]; exact h3
  | k + 1, lo, hi, h1, h2, h3 => by
    unfold bsGo
    split
    · split
      · rename_i h
        exact bsGo_true f k lo _ (by omega) (by omega) h
      · exact bsGo_true f k _ hi (by omega) (by omega) h3
    · have e : hi = lo := by omega
      rw [← e]; exact h3
theorem iM_zero (parts : Int) : iM parts 0 = 0 := by
  unfold iM monN roundN
  simp
theorem enGo_zero (parts pay : Int) : ∀ k, enGo parts pay k 0 = true
  | 0 => rfl
  | k + 1 => by rw [enGo, if_pos rfl]
theorem enGo_pay {p parts b : Int} {n : Nat} (hr : rateB parts b = true) (h0 : 0 ≤ parts) (h1 : 1 ≤ p) (h2 : p ≤ 1000000000000) (hn : 1 ≤ n) : enGo parts (payV p parts n) n p = true := by
  have hb := iM_bd hr h0 (by omega) h2
  refine bsGo_true (fun m => enGo parts m n p) _ 1 (p + iM parts p) (by omega) (by omega) ?_
  show enGo parts (p + iM parts p) n p = true
  obtain ⟨m, rfl⟩ : ∃ m, n = m + 1 := ⟨n - 1, by omega⟩
  have e : (mon3 parts p (p + iM parts p) false).2.2 = 0 := by
    unfold mon3
    split
    · show p + iM parts p - (p + iM parts p) = 0; omega
    · show p + iM parts p - (p + iM parts p) = 0; omega
  rw [enGo, if_neg (by omega), e, if_neg (by omega), enGo_zero]
structure Jv (kind parts : Int) (r : Nat) (left pay : Int) : Prop where
  l0 : 0 ≤ left
  l1 : left ≤ 1000000000000
  p0 : 0 ≤ pay
  p1 : pay ≤ 1100000000000
  k : kind = 2 ∨ (1 ≤ pay ∧ enGo parts pay r left = true)
theorem Jv.step {kind parts b : Int} {r : Nat} {left pay : Int} (hr : rateB parts b = true) (h0 : 0 ≤ parts) (h : Jv kind parts (r + 1) left pay) :
    (0 ≤ (if kind = 2 then iM parts left else pay) ∧ (if kind = 2 then iM parts left else pay) ≤ 1100000000000) ∧ r3ok (mon3 parts left (if kind = 2 then iM parts left else pay) (r == 0)) ∧
    Jv kind parts r (mon3 parts left (if kind = 2 then iM parts left else pay) (r == 0)).2.2 (if kind = 2 then iM parts left else pay) := by
  have hb := iM_bd hr h0 h.l0 h.l1
  have hl1 := h.l1
  by_cases hk : kind = 2
  · simp only [if_pos hk]
    have hd := mon3_dec (pay := iM parts left) hr h0 h.l0 h.l1 hb.1 (r == 0)
    exact ⟨⟨hb.1, by omega⟩, mon3_ok hr h0 h.l0 h.l1 hb.1 (by omega) _, hd.2.1, by have := hd.2.2 (Int.le_refl _); omega, hb.1, by omega, .inl hk⟩
  · simp only [if_neg hk]
    obtain ⟨hp, he⟩ := h.k.resolve_left hk
    have hd := mon3_dec (pay := pay) hr h0 h.l0 h.l1 h.p0 (r == 0)
    refine ⟨⟨h.p0, h.p1⟩, mon3_ok hr h0 h.l0 h.l1 h.p0 h.p1 _, hd.2.1, ?_, h.p0, h.p1, .inr ⟨hp, ?_⟩⟩
    all_goals
      rw [enGo] at he
      cases hr0 : (r == 0) with
      | true => ?_
      | false => ?_
    · have e : (mon3 parts left pay true).2.2 = 0 := by
        unfold mon3; rw [if_pos (.inl rfl)]; show left + iM parts left - (left + iM parts left) = 0; omega
      rw [e]; omega
    · by_cases hz : left = 0
      · have e : (mon3 parts left pay false).2.2 = 0 := by
          unfold mon3; rw [hz, iM_zero, if_pos (.inr (by omega))]; rfl
        rw [e]; omega
      · rw [if_neg hz] at he
        split at he
        · cases he
        · omega
    · have e : (mon3 parts left pay true).2.2 = 0 := by
        unfold mon3; rw [if_pos (.inl rfl)]; show left + iM parts left - (left + iM parts left) = 0; omega
      rw [e]; exact enGo_zero _ _ _
    · by_cases hz : left = 0
      · have e : (mon3 parts left pay false).2.2 = 0 := by
          unfold mon3; rw [hz, iM_zero, if_pos (.inr (by omega))]; rfl
        rw [e]; exact enGo_zero _ _ _
      · rw [if_neg hz] at he
        split at he
        · cases he
        · exact he
theorem Jv.start {kind parts b p : Int} {n : Nat} (h : lvRight p parts b n = true) (h0 : 0 ≤ parts) : Jv kind parts n p (payV p parts n) := by
  simp only [lvRight, Bool.and_eq_true, decide_eq_true_eq, coinB] at h
  obtain ⟨hr, h1, ⟨_, h2⟩, h3, h4⟩ := h
  have hb := iM_bd hr h0 (by omega) h2
  have hp := payV_in (n := n) hr h0 h1 h2
  exact ⟨by omega, h2, by omega, by omega, .inr ⟨hp.1, enGo_pay hr h0 h1 h2 (by omega)⟩⟩
theorem lvName_ne {k : Int} (h : k = 1 ∨ k = 2) : ((lvName k).toList == (⟨#[]⟩ : ByteArray).toList) = false := by
  rcases h with rfl | rfl <;> decide +kernel
set_option maxRecDepth 20000 in
set_option maxHeartbeats 1000000 in
theorem rows (kind p parts b : Int) (n : Nat) (hk : kind = 1 ∨ kind = 2) (h : lvRight p parts b n = true) (h0 : 0 ≤ parts) (w : World) (M I : BS) (hM : ∀ b, ¬ M b) (H : Hp ⟨w, M, I⟩ [] [] w) :
    Ctr Tryz.prog 64 [.int .u8 kind, .int .i64 p, rateV parts b, .int .i64 n] w M I (fun a : SV => .tuple #[.slice a.A a.n a.c, .nilIface]) (fun _ => True) (fun _ => []) (fun a => [Sl row3R (.slice a.A a.n a.c) (rowsGo kind parts n p (payV p parts n))]) := by
  have hh := h
  simp only [lvRight, Bool.and_eq_true, decide_eq_true_eq, coinB] at hh
  obtain ⟨hr, _, _, h3, h4⟩ := hh
  refine Exe.of_ev tok Tryz.call64 Tryz.func64 rfl rfl rfl ?_
  refine box_as H (rateC parts b) rfl fun r w1 H1 => ?_
  refine call_rule H1 (fun M I _ h => levelName kind _ M I h) fun _ w2 _ H2 => ?_
  refine br (fun q => ?_) (fun _ => ?_)
  · exfalso
    have q : ((lvName kind).toList == (⟨#[]⟩ : ByteArray).toList) = true := q
    rw [lvName_ne hk] at q; cases q
  refine load_rule tok H2 (v := rateV parts b) rfl ?_
  refine call_rule H2 (fun M I _ hh => payment p parts b n h h0 _ M I hh) fun _ w3 _ H3 => ?_
  have H3 : Hp ⟨w, M, I⟩ [row 191 3 (.slice none 0 0) 0 (flatL row3C []), blk r (rateC parts b) 25] [] w3 := Hp.nil H3 191 3
  refine loop_rule tok (σ := Nat × List (Int × Int × Int) × Int × Int × SV) 144115185928434688 (fun s => [(10, .int .i64 s.2.2.2.1), (12, .slice s.2.2.2.2.A s.2.1.length s.2.2.2.2.c), (13, .int .i64 s.2.2.1), (14, .int .i64 ((s.2.1.length : Int) + 1))])
    (fun s w' => s.2.1.length + s.1 = n ∧ rowsGo kind parts n p (payV p parts n) = s.2.1 ++ rowsGo kind parts s.1 s.2.2.1 s.2.2.2.1 ∧ (∀ x, x ∈ s.2.1 → r3ok x) ∧ Jv kind parts s.1 s.2.2.1 s.2.2.2.1 ∧ Hp ⟨w, M, I⟩ [row 191 3 (.slice s.2.2.2.2.A s.2.1.length s.2.2.2.2.c) s.2.1.length (flatL row3C s.2.1), blk r (rateC parts b) 25] [] w') (fun s => s.1) (n, [], p, payV p parts n, ⟨none, 0, 0⟩) rfl rfl ⟨rfl, rfl, rfl, rfl, trivial⟩
    ⟨by simp, rfl, (fun x hx => by cases hx), Jv.start h h0, H3⟩ ?_
  intro s j w4 hW
  have hlen := hW.1
  have hg := hW.2.1
  have hok := hW.2.2.1
  have hJ := hW.2.2.2.1
  have H4 := hW.2.2.2.2
  refine brd (fun hlt => ?_) (fun hge => ?_)
  · have ek : s.1 = (s.1 - 1) + 1 := by omega
    have hJ := ek ▸ hJ
    have hst := Jv.step hr h0 hJ
    have hpb := hst.1
    rw [ek, rowsGo] at hg
    have ew : IntKind.i64.wrap ((s.2.1.length : Int) + 1 + 1) = (((s.2.1.length + 1 : Nat) : Int) + 1) := by rw [i64w (by omega) (by omega)]; omega
    have eall : ((s.2.1.length : Int) + 1 == (n : Int)) = (s.1 - 1 == 0) := by
      by_cases e : s.1 - 1 = 0
      · rw [e]; simp; omega
      · have : (s.1 - 1 == 0) = false := by simpa using e
        rw [this]; simp; omega
    refine br (fun q => ?_) (fun q => ?_)
    · have q : kind = 2 := by have q : (kind == 2) = true := q; simpa using q
      simp only [if_pos q] at hst hg hpb
      refine load_rule tok H4 (v := rateV parts b) rfl ?_
      refine call_rule H4 (fun M I _ hh => month0 parts b s.2.2.1 hr h0 hJ.l0 hJ.l1 _ M I hh) fun _ w5 _ H5 => ?_
      refine load_rule tok H5 (v := rateV parts b) rfl ?_
      refine call_rule H5 (fun M I _ hh => eall ▸ month3 parts b s.2.2.1 (iM parts s.2.2.1) (s.1 - 1 == 0) hr h0 hJ.l0 hJ.l1 hpb.1 (by omega) _ M I hh) fun _ w6 _ H6 => ?_
      refine Exists.elim (⟨_, rfl⟩ : ∃ W, W = mon3 parts s.2.2.1 (iM parts s.2.2.1) (s.1 - 1 == 0)) fun W hWe => ?_
      rw [← hWe] at hst hg
      refine alloc_as tok H6 (row3C (0, 0, 0)) rfl rfl rfl fun o w7 H7 => ?_
      refine store_as tok H7 (row3C (mon3 parts s.2.2.1 (iM parts s.2.2.1) ((s.2.1.length : Int) + 1 == (n : Int)))) rfl rfl rfl rfl rfl fun w8 H8 => ?_
      rw [eall, ← hWe] at H8
      have hn1 : s.2.1.length + 1 ≤ 480 := by omega
      refine draw_rule (A := [row 191 3 (.slice s.2.2.2.2.A s.2.1.length s.2.2.2.2.c) s.2.1.length (flatL row3C s.2.1)]) tok tdr H8 [0, 1, 2, 3, 4, 5, 6, 7] [0, 0, 2, 7, 0, 16, 15, 127] rfl ?_
      refine pass_rule _ (fun w h => load_rule tok h (v := row3V W) rfl ⟨rfl, rfl⟩) ?_
      refine fresh_slice tok (row3C W) rfl rfl rfl rfl rfl rfl rfl fun g => ?_
      refine imp_rule (fun X wx h => append_rule (v := .slice s.2.2.2.2.A s.2.1.length s.2.2.2.2.c) (b := g) (m := 1) (c := 1) tok h rfl rfl rfl rfl rfl rfl rfl rfl (by show (s.2.1.length + 1) * 24 ≤ _; omega) (by omega) fun A2 c2 w1 H1 => imp_done H1 ?_)
      refine pass_rule _ (fun w h => load_rule tok h (v := .int .i64 W.2.2) rfl ⟨rfl, rfl⟩) ?_
      refine done_rule fun w9 H9 => ?_
      have el : (s.2.1 ++ [W]).length = s.2.1.length + 1 := by simp
      have H10 : Hp ⟨w, M, I⟩ [row 191 3 (.slice A2 (s.2.1.length + 1) c2) (s.2.1.length + 1) (flatL row3C s.2.1 ++ row3C W), blk r (rateC parts b) 25] [] w9 := Hp.keep H9
      rw [← flatL_snoc, ← el] at H10
      refine Exists.intro (s.1 - 1, s.2.1 ++ [W], W.2.2, iM parts s.2.2.1, ⟨A2, 0, c2⟩) (And.intro ⟨rfl, congrArg (fun k => Value.slice A2 k c2) el.symm, rfl, congrArg (Value.int .i64) (by rw [ew, el]), trivial⟩ (And.intro (by show s.1 - 1 < s.1; omega) ⟨by show (s.2.1 ++ [W]).length + (s.1 - 1) = n; omega, ?_, ?_, hst.2.2, H10⟩))
      · rw [hg]; simp
      · intro x hx
        rcases List.mem_append.1 hx with hx | hx
        · exact hok x hx
        · rw [List.mem_singleton] at hx
          rw [hx]; exact hst.2.1
    · have q : ¬ kind = 2 := by have q : (kind == 2) = false := q; simpa using q
      simp only [if_neg q] at hst hg hpb
      refine load_rule tok H4 (v := rateV parts b) rfl ?_
      refine call_rule H4 (fun M I _ hh => eall ▸ month3 parts b s.2.2.1 (s.2.2.2.1) (s.1 - 1 == 0) hr h0 hJ.l0 hJ.l1 hpb.1 (by omega) _ M I hh) fun _ w6 _ H6 => ?_
      refine Exists.elim (⟨_, rfl⟩ : ∃ W, W = mon3 parts s.2.2.1 (s.2.2.2.1) (s.1 - 1 == 0)) fun W hWe => ?_
      rw [← hWe] at hst hg
      refine alloc_as tok H6 (row3C (0, 0, 0)) rfl rfl rfl fun o w7 H7 => ?_
      refine store_as tok H7 (row3C (mon3 parts s.2.2.1 (s.2.2.2.1) ((s.2.1.length : Int) + 1 == (n : Int)))) rfl rfl rfl rfl rfl fun w8 H8 => ?_
      rw [eall, ← hWe] at H8
      have hn1 : s.2.1.length + 1 ≤ 480 := by omega
      refine draw_rule (A := [row 191 3 (.slice s.2.2.2.2.A s.2.1.length s.2.2.2.2.c) s.2.1.length (flatL row3C s.2.1)]) tok tdr H8 [0, 1, 2, 3, 4, 5, 6, 7] [0, 0, 2, 7, 0, 16, 15, 127] rfl ?_
      refine pass_rule _ (fun w h => load_rule tok h (v := row3V W) rfl ⟨rfl, rfl⟩) ?_
      refine fresh_slice tok (row3C W) rfl rfl rfl rfl rfl rfl rfl fun g => ?_
      refine imp_rule (fun X wx h => append_rule (v := .slice s.2.2.2.2.A s.2.1.length s.2.2.2.2.c) (b := g) (m := 1) (c := 1) tok h rfl rfl rfl rfl rfl rfl rfl rfl (by show (s.2.1.length + 1) * 24 ≤ _; omega) (by omega) fun A2 c2 w1 H1 => imp_done H1 ?_)
      refine pass_rule _ (fun w h => load_rule tok h (v := .int .i64 W.2.2) rfl ⟨rfl, rfl⟩) ?_
      refine done_rule fun w9 H9 => ?_
      have el : (s.2.1 ++ [W]).length = s.2.1.length + 1 := by simp
      have H10 : Hp ⟨w, M, I⟩ [row 191 3 (.slice A2 (s.2.1.length + 1) c2) (s.2.1.length + 1) (flatL row3C s.2.1 ++ row3C W), blk r (rateC parts b) 25] [] w9 := Hp.keep H9
      rw [← flatL_snoc, ← el] at H10
      refine Exists.intro (s.1 - 1, s.2.1 ++ [W], W.2.2, s.2.2.2.1, ⟨A2, 0, c2⟩) (And.intro ⟨rfl, congrArg (fun k => Value.slice A2 k c2) el.symm, rfl, congrArg (Value.int .i64) (by rw [ew, el]), trivial⟩ (And.intro (by show s.1 - 1 < s.1; omega) ⟨by show (s.2.1 ++ [W]).length + (s.1 - 1) = n; omega, ?_, ?_, hst.2.2, H10⟩))
      · rw [hg]; simp
      · intro x hx
        rcases List.mem_append.1 hx with hx | hx
        · exact hok x hx
        · rw [List.mem_singleton] at hx
          rw [hx]; exact hst.2.1
  · have e0 : s.1 = 0 := by omega
    have en : s.2.1.length = n := by omega
    rw [e0, rowsGo, List.append_nil] at hg
    have H5 := Hp.frzFlat (v := .slice s.2.2.2.2.A s.2.1.length s.2.2.2.2.c) H4 3 row3C (fun _ => rfl) r3ok hM (by decide) hok
    refine Exists.intro ⟨s.2.2.2.2.A, s.2.1.length, s.2.2.2.2.c⟩ (And.intro rfl (And.intro trivial ?_))
    rw [hg]
    exact Hp.keep H5
end Go.Proofs.YtgbmambkgcjhfaaGreatDoor
