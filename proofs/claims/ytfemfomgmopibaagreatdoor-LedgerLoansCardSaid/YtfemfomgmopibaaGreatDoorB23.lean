/- The loans of a ledger, rising: a map's keys come one by one, are collected, are sorted: the walks. Printed by genb23.py. -/
import Derived.Test.YtfemfomgmopibaaGreatDoorB21
import Derived.Test.YtfemfomgmopibaaGreatDoorK10
import Derived.RangeFuncLeaves
set_option linter.unusedVariables false
namespace Go.Proofs.YtfemfomgmopibaaGreatDoor
open Go Go.Proofs Go.Wk
@[reducible] def u32V (x : Int) : Value := .int .u32 x
def u32sC : List Int → List Value
  | [] => []
  | x :: r => .int .u32 x :: u32sC r
theorem u32sC_len : ∀ ls : List Int, (u32sC ls).length = ls.length
  | [] => rfl
  | x :: r => by simp only [u32sC, List.length_cons, u32sC_len r]
theorem u32sC_app : ∀ a b : List Int, u32sC (a ++ b) = u32sC a ++ u32sC b
  | [], _ => rfl
  | x :: a, b => by simp [u32sC, u32sC_app a b]
theorem u32s_at : ∀ (ls : List Int) (j : Nat) (x : Int), ls[j]? = some x → (u32sC ls)[j]? = some (.int .u32 x)
  | [], j, x, h => by simp at h
  | y :: r, 0, x, h => by simp at h; subst h; rfl
  | y :: r, j + 1, x, h => by simp only [u32sC, List.getElem?_cons_succ] at h ⊢; exact u32s_at r j x h
theorem u32s_get {ls : List Int} {j : Nat} {x : Int} (h : ls[j]? = some x) : ldV (tb 23) (u32sC ls) (0 + j * 1) = some (.int .u32 x) := by
  show (u32sC ls)[0 + j * 1]? = _
  rw [Nat.zero_add, Nat.mul_one]
  exact u32s_at ls j x h
theorem u32s_set : ∀ (ls : List Int) (j : Nat) (x : Int), setL (u32sC ls) (0 + j * 1) [.int .u32 x] = u32sC (ls.set j x)
  | [], j, x => by simp [u32sC, setL]
  | y :: r, 0, x => rfl
  | y :: r, j + 1, x => by
    have ih := u32s_set r j x
    rw [show 0 + (j + 1) * 1 = 0 + j * 1 + 1 by omega]
    simp only [u32sC, setL, List.set_cons_succ] at ih ⊢
    rw [← ih]
theorem nanU (a : Int) : CB 104 [.int .u32 a] (.bool false) := by
  intro w M I H
  refine Exe.of_ev tok Tryz.call104 Tryz.func104 rfl rfl rfl ?_
  refine Exists.intro () (And.intro ?_ (And.intro trivial H))
  show Value.bool (!(a == a)) = _
  simp
theorem lessU (a b : Int) : CB 122 [.int .u32 a, .int .u32 b] (.bool (decide (a < b))) := by
  intro w M I H
  refine Exe.of_ev tok Tryz.call122 Tryz.func122 rfl rfl rfl ?_
  refine call_rule H (fun M I _ h => nanU a _ M I h) fun _ w1 _ H1 => ?_
  exact Exists.intro () (And.intro rfl (And.intro trivial (Hp.keep H1)))
def srtU (l : List Int) : Prop := l.Pairwise fun a b => a ≤ b
set_option maxHeartbeats 1000000 in
theorem insSortU (g n c : Nat) (hn : n ≤ 1000000) (ls : List Int) (hl : ls.length = n) (w : World) (M I : BS) (H : Hp ⟨w, M, I⟩ [row 23 1 (.slice (some ⟨g, 0, none⟩) n c) n (u32sC ls)] [] w) :
    Ctr Tryz.prog 116 [.slice (some ⟨g, 0, none⟩) n c, .int .i64 0, .int .i64 n] w M I (fun _ : List Int => .tuple #[]) (fun l => l.Perm ls ∧ srtU l) (fun l => [row 23 1 (.slice (some ⟨g, 0, none⟩) n c) n (u32sC l)]) (fun _ => []) := by
  refine Exe.of_ev tok Tryz.call116 Tryz.func116 rfl rfl rfl ?_
  refine loop_rule tok (σ := Nat × List Int) 562949953420480 (fun s => [(6, .int .i64 s.1)]) (fun s w' => 1 ≤ s.1 ∧ s.1 ≤ 1000001 ∧ s.2.Perm ls ∧ srtU (s.2.take s.1) ∧ Hp ⟨w, M, I⟩ [row 23 1 (.slice (some ⟨g, 0, none⟩) n c) n (u32sC s.2)] [] w') (fun s => n - s.1) (1, ls) rfl rfl ⟨rfl, trivial⟩ ⟨Nat.le_refl _, by simp, .refl _, ?_, H⟩ ?_
  · cases ls with
    | nil => exact List.Pairwise.nil
    | cons x r => simp [srtU]
  rintro ⟨i, l1⟩ j0 w1 ⟨hi, hi2, hp, hs, H1⟩
  simp only at hi hi2 hp hs H1
  refine brd (fun h => ?_) (fun h => ?_)
  · have hlt : i < n := by omega
    have hl1 : l1.length = n := by rw [hp.length_eq, hl]
    obtain ⟨pre, y, rest, rfl, hpre⟩ : ∃ pre y rest, l1 = pre ++ y :: rest ∧ pre.length = i := by
      refine ⟨l1.take i, l1[i], l1.drop (i + 1), ?_, by rw [List.length_take]; omega⟩
      rw [List.getElem_cons_drop, List.take_append_drop]
    rw [← hpre, List.take_left] at hs
    refine loop_rule tok (σ := List Int × List Int) 562949953355904 (fun s => [(7, .int .i64 s.1.length)]) (fun s w' => s.1 ++ s.2 = pre ∧ (∀ z, z ∈ s.2 → y ≤ z) ∧ Hp ⟨w, M, I⟩ [row 23 1 (.slice (some ⟨g, 0, none⟩) n c) n (u32sC (s.1 ++ y :: (s.2 ++ rest)))] [] w') (fun s => s.1.length) (pre, []) rfl rfl ⟨?_, trivial⟩ ⟨by simp, by simp, by simpa using H1⟩ ?_
    · show Value.int .i64 _ = _
      rw [hpre]
    rintro ⟨p, s⟩ j1 w2 ⟨e, hz, H2⟩
    simp only at e hz H2
    have hps := congrArg List.length e
    have hll : pre.length + 1 + rest.length = n := by rw [← hl1]; simp; omega
    simp only [List.length_append] at hps
    have fin : ∀ w3, srtU (p ++ y :: s) → Hp ⟨w, M, I⟩ [row 23 1 (.slice (some ⟨g, 0, none⟩) n c) n (u32sC (p ++ y :: (s ++ rest)))] [] w3 → (p ++ y :: (s ++ rest)).Perm ls ∧ srtU ((p ++ y :: (s ++ rest)).take (i + 1)) := fun w3 h1 _ => by
      refine ⟨?_, ?_⟩
      · refine List.Perm.trans ?_ hp
        have e1 : pre ++ y :: rest = p ++ (s ++ y :: rest) := by rw [← e]; simp
        have e2 : p ++ y :: (s ++ rest) = p ++ (y :: s ++ rest) := by simp
        rw [e1, e2]
        refine List.Perm.append_left p ?_
        exact (List.perm_middle (a := y) (l₁ := s) (l₂ := rest)).symm
      · have e2 : p ++ y :: (s ++ rest) = (p ++ y :: s) ++ rest := by simp
        rw [e2, List.take_left' (by simp <;> omega)]
        exact h1
    have hs' : srtU (p ++ s) := by rw [e]; exact hs
    obtain ⟨hsp, hss, hsc⟩ := List.pairwise_append.1 hs'
    rcases List.eq_nil_or_concat p with hpe | ⟨p', x, hpe⟩
    · subst hpe
      refine draw_rule (A := []) tok tdr H2 [0, 1, 2, 3, 4, 5, 6, 7, 8, 9, 10, 11, 12, 13, 14] [0, 0, 3, 7, 15, 15, 63, 127, 15, 15, 527, 1807, 3855, 8191, 16383] rfl ?_
      refine done_rule fun w3 H3 => ?_
      have hf := fin w3 (List.pairwise_cons.2 ⟨fun z hz' => hz z hz', hss⟩) H3
      refine Exists.intro (i + 1, [] ++ y :: (s ++ rest)) (And.intro ⟨?_, trivial⟩ (And.intro ?_ ⟨by simp only; omega, by simp only; omega, hf.1, hf.2, H3⟩))
      · show Value.int .i64 (IntKind.i64.wrap (i + 1)) = _
        rw [w64 (by omega) (by omega)]; rfl
      · simp only; omega
    · rw [List.concat_eq_append] at hpe
      subst hpe
      simp only [List.length_append, List.length_cons, List.length_nil] at hps
      have hy : (p' ++ [x] ++ y :: (s ++ rest))[(((p' ++ [x]).length : Nat) : Int).toNat]? = some y := by simp
      have hx : (p' ++ [x] ++ y :: (s ++ rest))[(IntKind.i64.wrap ((((p' ++ [x]).length : Nat) : Int) - 1)).toNat]? = some x := by
        rw [w64 (by simp <;> omega) (by simp <;> omega)]
        simp
      have i1 : (0 : Int) ≤ (((p' ++ [x]).length : Nat) : Int) := by omega
      have i2 : (((p' ++ [x]).length : Nat) : Int) < n := by simp <;> omega
      have i3 : (0 : Int) ≤ IntKind.i64.wrap ((((p' ++ [x]).length : Nat) : Int) - 1) := by rw [w64 (by simp <;> omega) (by simp <;> omega)]; simp
      have i4 : IntKind.i64.wrap ((((p' ++ [x]).length : Nat) : Int) - 1) < n := by rw [w64 (by simp <;> omega) (by simp <;> omega)]; simp <;> omega
      refine draw_rule (A := []) tok tdr H2 [0, 1, 2, 3, 4, 5, 6, 7, 8, 9, 10, 11, 12, 13, 14] [0, 0, 3, 7, 15, 15, 63, 127, 15, 15, 527, 1807, 3855, 8191, 16383] rfl ?_
      refine brd (fun q => ?_) (fun q => ?_)
      · refine pass_rule _ (fun w h => idx_own tok rfl rfl i1 i2 ⟨rfl, rfl⟩) ?_
        refine pass_rule _ (fun w h => row_ld tok h (.int .u32 y) (u32s_get hy) ⟨rfl, rfl⟩) ?_
        refine pass_rule _ (fun w h => idx_own tok rfl rfl i3 i4 ⟨rfl, rfl⟩) ?_
        refine pass_rule _ (fun w h => row_ld tok h (.int .u32 x) (u32s_get hx) ⟨rfl, rfl⟩) ?_
        refine imp_rule (fun X w h => call_rule h (fun M I _ h => lessU y x _ M I h) fun _ w1 _ H1 => imp_done H1 ?_)
        refine done_rule fun w3 H3 => ?_
        refine brd (fun q2 => ?_) (fun q2 => ?_)
        · have hlt : y < x := q2
          have hln : (u32sC (p' ++ [x] ++ y :: (s ++ rest))).length = n := by rw [u32sC_len]; simp; omega
          have hb1 : 0 + (((p' ++ [x]).length : Nat) : Int).toNat * 1 + 1 ≤ (u32sC (p' ++ [x] ++ y :: (s ++ rest))).length := by rw [hln]; omega
          have hb2 : 0 + (IntKind.i64.wrap ((((p' ++ [x]).length : Nat) : Int) - 1)).toNat * 1 + 1 ≤ (setL (u32sC (p' ++ [x] ++ y :: (s ++ rest))) (0 + (((p' ++ [x]).length : Nat) : Int).toNat * 1) [.int .u32 x]).length := by rw [length_setL, hln]; omega
          refine draw_rule (A := [row 23 1 (.slice (some ⟨g, 0, none⟩) n c) n (u32sC (p' ++ [x] ++ y :: (s ++ rest)))]) tok tdr H3 [0, 1, 5, 6, 7, 8, 9, 10, 11, 12, 13, 14, 15, 2, 3, 4, 16, 17] [0, 0, 0, 0, 8, 0, 0, 64, 224, 480, 0, 0, 3072, 7168, 16355, 32739, 65535, 131071] rfl ?_
          refine pass_rule _ (fun w h => idx_own tok rfl rfl i3 i4 ⟨rfl, rfl⟩) ?_
          refine pass_last _ rfl (fun X w h => row_ld tok h (.int .u32 x) (u32s_get hx) ⟨rfl, rfl⟩) ?_
          refine pass_rule _ (fun w h => idx_own tok rfl rfl i1 i2 ⟨rfl, rfl⟩) ?_
          refine pass_last _ rfl (fun X w h => row_ld tok h (.int .u32 y) (u32s_get hy) ⟨rfl, rfl⟩) ?_
          refine pass_rule _ (fun w h => idx_own tok rfl rfl i1 i2 ⟨rfl, rfl⟩) ?_
          refine imp_rule (fun X w h => row_st tok h rfl rfl hb1 rfl fun w' H' => imp_done H' ?_)
          refine pass_rule _ (fun w h => idx_own tok rfl rfl i3 i4 ⟨rfl, rfl⟩) ?_
          refine imp_rule (fun X w h => row_st tok h rfl rfl hb2 rfl fun w' H' => imp_done H' ?_)
          refine done_rule fun w4 H4 => ?_
          refine Exists.intro (p', x :: s) (And.intro ⟨?_, trivial⟩ (And.intro ?_ ⟨?_, ?_, ?_⟩))
          · show Value.int .i64 (IntKind.i64.wrap _) = _
            rw [w64 (by simp <;> omega) (by simp <;> omega)]; simp
          · simp
          · simpa using e
          · intro z hz'
            rcases List.mem_cons.1 hz' with rfl | hz'
            · exact Int.le_of_lt hlt
            · exact hz z hz'
          · have ee : setL (setL (u32sC (p' ++ [x] ++ y :: (s ++ rest))) (0 + (((p' ++ [x]).length : Nat) : Int).toNat * 1) [.int .u32 x]) (0 + (IntKind.i64.wrap ((((p' ++ [x]).length : Nat) : Int) - 1)).toNat * 1) [.int .u32 y] = u32sC (p' ++ y :: (x :: s ++ rest)) := by
              rw [u32s_set, u32s_set, w64 (by simp <;> omega) (by simp <;> omega)]
              congr 1
              simp
            rw [← ee]
            exact H4
        · have hle : x ≤ y := by have q2 : ¬ y < x := q2; omega
          have hf := fin w3 (by
            refine List.pairwise_append.2 ⟨hsp, List.pairwise_cons.2 ⟨fun z hz' => hz z hz', hss⟩, fun u hu v hv => ?_⟩
            rcases List.mem_cons.1 hv with rfl | hv
            · rcases List.mem_append.1 hu with hu | hu
              · exact Int.le_trans ((List.pairwise_append.1 hsp).2.2 u hu x (by simp)) hle
              · simp only [List.mem_singleton] at hu; subst hu; exact hle
            · exact hsc u hu v hv) H3
          refine Exists.intro (i + 1, p' ++ [x] ++ y :: (s ++ rest)) (And.intro ⟨?_, trivial⟩ (And.intro ?_ ⟨by simp only; omega, by simp only; omega, hf.1, hf.2, H3⟩))
          · show Value.int .i64 (IntKind.i64.wrap (i + 1)) = _
            rw [w64 (by omega) (by omega)]; rfl
          · simp only; omega
      · exact absurd q (by simp <;> omega)
  · exact Exists.intro l1 (And.intro rfl (And.intro ⟨hp, by rwa [List.take_of_length_le (by have := hp.length_eq; omega)] at hs⟩ H1))
theorem pdqU (g n c : Nat) (hn : n ≤ 12) (z : Int) (ls : List Int) (hl : ls.length = n) (w : World) (M I : BS) (H : Hp ⟨w, M, I⟩ [row 23 1 (.slice (some ⟨g, 0, none⟩) n c) n (u32sC ls)] [] w) :
    Ctr Tryz.prog 107 [.slice (some ⟨g, 0, none⟩) n c, .int .i64 0, .int .i64 n, .int .i64 z] w M I (fun _ : List Int => .tuple #[]) (fun l => l.Perm ls ∧ srtU l) (fun l => [row 23 1 (.slice (some ⟨g, 0, none⟩) n c) n (u32sC l)]) (fun _ => []) := by
  refine Exe.of_ev tok Tryz.call107 Tryz.func107 rfl rfl rfl ?_
  refine loop_rule tok (σ := Unit) 21778071482940061661655974875633165532942 (fun _ => [(1, .int .i64 0), (2, .int .i64 n)]) (fun _ w' => Hp ⟨w, M, I⟩ [row 23 1 (.slice (some ⟨g, 0, none⟩) n c) n (u32sC ls)] [] w') (fun _ => 0) () rfl rfl ⟨rfl, rfl, trivial⟩ H ?_
  rintro ⟨⟩ j w1 H1
  have e : IntKind.i64.wrap ((n : Int) - 0) = n := by rw [Int.sub_zero]; exact w64 (by omega) (by omega)
  refine brd (fun h => ?_) (fun h => ?_)
  · refine call_rule H1 (fun M I _ h => insSortU g n c (by omega) ls hl _ M I h) fun l w2 hφ H2 => ?_
    exact Exists.intro l (And.intro rfl (And.intro hφ H2))
  · rw [e] at h; omega
theorem sortU (g n c : Nat) (hn : n ≤ 12) (ls : List Int) (hl : ls.length = n) (w : World) (M I : BS) (H : Hp ⟨w, M, I⟩ [row 23 1 (.slice (some ⟨g, 0, none⟩) n c) n (u32sC ls)] [] w) :
    Ctr Tryz.prog 77 [.slice (some ⟨g, 0, none⟩) n c] w M I (fun _ : List Int => .tuple #[]) (fun l => l.Perm ls ∧ srtU l) (fun l => [row 23 1 (.slice (some ⟨g, 0, none⟩) n c) n (u32sC l)]) (fun _ => []) := by
  refine Exe.of_ev tok Tryz.call77 Tryz.func77 rfl rfl rfl ?_
  have e : IntKind.u64.wrap (n : Int) = n := wrap_id ⟨by simp [kLo], by simp only [kHi]; omega⟩
  refine call_rule H (fun M I _ h => (by rw [e]; exact len_ n (by omega) (by omega) _ M I h)) fun z w1 _ H1 => ?_
  refine call_rule H1 (fun M I _ h => pdqU g n c hn z ls hl _ M I h) fun l w2 hφ H2 => ?_
  exact Exists.intro l (And.intro rfl (And.intro hφ H2))
theorem insNilU : CB 116 [.slice none 0 0, .int .i64 0, .int .i64 0] (.tuple #[]) := by
  intro w M I H
  refine Exe.of_ev tok Tryz.call116 Tryz.func116 rfl rfl rfl ?_
  refine loop_rule tok (σ := Unit) 562949953420480 (fun _ => [(6, .int .i64 1)]) (fun _ w' => Hp ⟨w, M, I⟩ [] [] w') (fun _ => 0) () rfl rfl ⟨rfl, trivial⟩ H ?_
  rintro ⟨⟩ j w1 H1
  exact Exists.intro () (And.intro rfl (And.intro trivial H1))
theorem pdqNilU (z : Int) : CB 107 [.slice none 0 0, .int .i64 0, .int .i64 0, .int .i64 z] (.tuple #[]) := by
  intro w M I H
  refine Exe.of_ev tok Tryz.call107 Tryz.func107 rfl rfl rfl ?_
  refine loop_rule tok (σ := Unit) 21778071482940061661655974875633165532942 (fun _ => [(1, .int .i64 0), (2, .int .i64 0)]) (fun _ w' => Hp ⟨w, M, I⟩ [] [] w') (fun _ => 0) () rfl rfl ⟨rfl, rfl, trivial⟩ H ?_
  rintro ⟨⟩ j w1 H1
  refine call_rule H1 (fun M I _ h => insNilU _ M I h) fun _ w2 _ H2 => ?_
  exact Exists.intro () (And.intro rfl (And.intro trivial (Hp.keep H2)))
theorem sortNilU : CB 77 [.slice none 0 0] (.tuple #[]) := by
  intro w M I H
  refine Exe.of_ev tok Tryz.call77 Tryz.func77 rfl rfl rfl ?_
  refine call_rule H (fun M I _ h => len_ 0 (by decide) (by decide) _ M I h) fun z w1 _ H1 => ?_
  refine call_rule H1 (fun M I _ h => pdqNilU z _ M I h) fun _ w2 _ H2 => ?_
  exact Exists.intro () (And.intro rfl (And.intro trivial (Hp.keep H2)))
/-! A map's keys come one by one. -/
theorem keysIt (l N Bm m : Nat) (J : List Int → Asn) (hY : YieldC Tryz.prog l N u32V J) (lst : List (Int × Int)) (hN : lst.length ≤ N) (w : World) (M I : BS) (H : Hp ⟨w, M, I⟩ [J [], blk Bm [.map (some m)] 59, mapO m u32V iV lst] [] w) :
    Ctr Tryz.prog 78 [.func (.yield l) #[] #[], .pointer (some ⟨Bm, 0, none⟩)] w M I (fun _ : List Int => .tuple #[]) (fun xs => xs.Perm (lst.map (·.1))) (fun xs => [J xs, blk Bm [.map (some m)] 59, mapO m u32V iV lst]) (fun _ => []) := by
  refine Exe.of_ev tok Tryz.call78 Tryz.func78 rfl rfl rfl ?_
  refine load_rule tok H (v := .map (some m)) rfl ?_
  refine range_rule (n := m) tok H rfl fun it w1 H1 => ?_
  have H1 : Hp ⟨w, M, I⟩ [J [], blk Bm [.map (some m)] 59, rngO m it u32V iV lst lst none] [] w1 := Hp.keep H1
  refine loop_rule tok (σ := List Int × List (Int × Int) × Option (Int × Int)) 16328 (fun _ => [])
    (fun s w' => (s.1 ++ s.2.1.map (·.1)).Perm (lst.map (·.1)) ∧ Hp ⟨w, M, I⟩ [J s.1, blk Bm [.map (some m)] 59, rngO m it u32V iV lst s.2.1 s.2.2] [] w') (fun s => s.2.1.length) ([], lst, none) rfl rfl trivial ⟨.refl _, H1⟩ ?_
  rintro ⟨pre, lf, cur⟩ j w2 ⟨hp, H2⟩
  simp only at hp H2
  refine next_rule (n := m) H2 (fun hl => ?_) fun a p b w3 hl H3 => ?_
  · subst hl
    have H4 : Hp ⟨w, M, I⟩ [mapO m u32V iV lst, J pre, blk Bm [.map (some m)] 59] [] w2 := Hp.keep (Hp.rngBack (n := m) (g := it) H2)
    exact Exists.intro pre (And.intro rfl (And.intro (by simpa using hp) (Hp.keep H4)))
  · subst hl
    have hlen : pre.length < N := by
      have := hp.length_eq
      simp at this
      omega
    refine entry_rule (n := m) H3 ?_
    refine yield_rule hY H3 pre p.1 hlen fun w4 H4 => ?_
    refine Exists.intro (pre ++ [p.1], a ++ b, some p) (And.intro trivial (And.intro ?_ ⟨?_, Hp.keep H4⟩))
    · simp only [List.length_append, List.length_cons]; omega
    · refine List.Perm.trans ?_ hp
      simp only [List.map_append, List.map_cons, List.append_assoc, List.singleton_append]
      exact List.Perm.append_left pre (List.perm_middle (a := p.1) (l₁ := a.map (·.1)) (l₂ := b.map (·.1))).symm
theorem fits_arg (args : List Value) (n : Nat) {t : Array Value} (ht : t = args.toArray ++ Array.replicate (n - args.toArray.size) undef) (hn : args.length ≤ n) : Fits [] n (argEnv args) ⟨t, []⟩ := by
  subst ht
  refine ⟨rfl, by simp; omega, fun t => ?_⟩
  simp only [argEnv, Array.getD_eq_getD_getElem?, List.getD_eq_getElem?_getD]
  rcases Nat.lt_or_ge t args.length with ht | ht
  · rw [Array.getElem?_append_left (by simpa using ht)]; simp
  · rw [Array.getElem?_append_right (by simpa using ht), List.getElem?_eq_none ht]
    simp only [Option.getD_none, Array.getElem?_replicate]
    split <;> rfl
/-- What AppendSeq keeps between two rounds. -/
def apX (bs : Nat) (pre : List Int) : Asn := packA (fun a : SV => a.n = pre.length) fun a => [blk bs [.slice a.A a.n a.c] 57, row 23 1 (.slice a.A a.n a.c) a.n (u32sC pre)]
noncomputable def apA : Code := match Tryz.f106.body with
  | some (.seq _ (.seq (.seq _ (.block _ (.rangeFunc _ _ a _))) _)) => a
  | _ => .skip
noncomputable def apB : Code := match Tryz.f106.body with
  | some (.seq _ (.seq (.seq _ (.block _ (.rangeFunc _ _ _ b))) _)) => b
  | _ => .skip
set_option maxRecDepth 20000 in
theorem appendSeq (Bm m : Nat) (lst : List (Int × Int)) (hN : lst.length ≤ 100000) (w : World) (M I : BS) (H : Hp ⟨w, M, I⟩ [blk Bm [.map (some m)] 59, mapO m u32V iV lst] [] w) :
    Ctr Tryz.prog 106 [.slice none 0 0, .func (.func 78) #[] #[.pointer (some ⟨Bm, 0, none⟩)]] w M I (fun a : SV × List Int => .slice a.1.A a.1.n a.1.c) (fun a => a.2.Perm (lst.map (·.1)) ∧ a.1.n = a.2.length) (fun a => [row 23 1 (.slice a.1.A a.1.n a.1.c) a.1.n (u32sC a.2), blk Bm [.map (some m)] 59, mapO m u32V iV lst]) (fun _ => []) := by
  refine ⟨Tryz.call106, (callsIn_wide (n := 0)).1 (callsIn_of_wp_marks (F := Fence.wide) Tryz.func106 rfl trivial ?_ rfl)⟩
  refine wpIn_seq ?_
  refine wpIn_mono (ev_sound (ro := none) (ds := []) (n := 13) tok _ (fun x e' w' => x = .normal ∧ ∃ bs, Has e' [(1, .func (.func 78) #[] #[.pointer (some ⟨Bm, 0, none⟩)]), (2, .pointer (some ⟨bs, 0, none⟩))] ∧ Hp ⟨w, M, I⟩ [blk bs [.slice none 0 0] 57, blk Bm [.map (some m)] 59, mapO m u32V iV lst] [] w') (argEnv [.slice none 0 0, .func (.func 78) #[] #[.pointer (some ⟨Bm, 0, none⟩)]]) w _ rfl ?fits ?ev0) ?_
  case ev0 =>
    refine box_as H [.slice none 0 0] rfl fun bs w1 H1 => ?_
    exact And.intro rfl (Exists.intro bs (And.intro ⟨rfl, rfl, trivial⟩ H1))
  case fits =>
    exact fits_arg _ _ rfl (Nat.le_of_ble_eq_true rfl)
  rintro x a1 w1 ⟨e1, hf1, rfl, bs, hh, H1⟩
  have he1 := sets_of (Off.refl 0 e1) hh
  refine wpIn_seq (wpIn_seq ?_)
  refine wpIn_mono (ev_sound (ro := none) (ds := []) (n := 13) tok _ (fun x e' w' => x = .normal ∧ Has e' [(6, .func (.func 78) #[] #[.pointer (some ⟨Bm, 0, none⟩)]), (2, .pointer (some ⟨bs, 0, none⟩))] ∧ w' = w1) e1 w1 a1 rfl hf1 ?ev1) ?_
  case ev1 =>
    rw [he1]
    exact And.intro rfl (And.intro ⟨rfl, rfl, trivial⟩ rfl)
  rintro x a2 w2 ⟨e2, hf2, rfl, hh2, rfl⟩
  have he2 := sets_of (Off.refl 0 e2) hh2
  have hf2e := hf2
  rw [he2] at hf2e
  refine wpIn_block ?_
  have hg : a2.eval (.tmp 6) = .func (.func 78) #[] [Value.pointer (some ⟨Bm, 0, none⟩)].toArray := by
    rw [hf2.eval]
    exact hh2.1
  refine rangeFunc_go H1 hg fun fn l D W HW => ?_
  have hft : Fits [] 13 (sets (havoc 0 e2 e2) [(6, .func (.func 78) #[] #[.pointer (some ⟨Bm, 0, none⟩)]), (2, .pointer (some ⟨bs, 0, none⟩))]) ⟨a2.tmps, []⟩ := ⟨rfl, hf2e.2.1, hf2e.2.2⟩
  have hY := YieldC.of (P := Tryz.prog) tok (l := l) (N := 100000) (n := 13) (enc := u32V) (fn := fn) (p := 7) (D := D) (assign := apA) (body := apB) hft (by decide) rfl rfl (fun x => upd (upd (sets (havoc 0 e2 e2) [(6, .func (.func 78) #[] #[.pointer (some ⟨Bm, 0, none⟩)]), (2, .pointer (some ⟨bs, 0, none⟩))]) 7 (u32V x)) 5 (u32V x)) (apX bs)
    (fun x w => And.intro rfl (And.intro rfl rfl)) (fun pre x w M I hlen Hx => by
      obtain ⟨sv, hsv, Hx⟩ := Hp.unpack Hx
      have hsv : sv.n = pre.length := hsv
      have Hx : Hp ⟨w, M, I⟩ [blk bs [.slice sv.A sv.n sv.c] 57, row 23 1 (.slice sv.A sv.n sv.c) sv.n (u32sC pre)] [] w := Hx
      refine load_rule tok Hx (v := .slice sv.A sv.n sv.c) rfl ?_
      refine slice_as tok Hx [.int .u32 x] rfl rfl rfl rfl rfl rfl fun g w1 H1 => ?_
      refine append_rule (v := .slice sv.A sv.n sv.c) (b := g) (m := 1) (c := 1) tok H1 rfl rfl rfl rfl rfl rfl rfl rfl (by show (sv.n + 1) * 4 ≤ _; omega) (by omega) fun A2 c2 w2 H2 => ?_
      refine store_as tok H2 [.slice A2 (sv.n + 1) c2] rfl rfl rfl rfl rfl fun w3 H3 => ?_
      have H3 : Hp ⟨w, M, I⟩ [blk bs [.slice A2 (sv.n + 1) c2] 57, row 23 1 (.slice A2 (sv.n + 1) c2) (sv.n + 1) (u32sC pre ++ [.int .u32 x])] [] w3 := Hp.keep H3
      have e : u32sC pre ++ [.int .u32 x] = u32sC (pre ++ [x]) := by rw [u32sC_app]; rfl
      rw [e] at H3
      exact And.intro rfl (Hp.pack (p := fun a : SV => a.n = (pre ++ [x]).length) (f := fun a => [blk bs [.slice a.A a.n a.c] 57, row 23 1 (.slice a.A a.n a.c) a.n (u32sC (pre ++ [x]))]) ⟨A2, sv.n + 1, c2⟩ (by simp [hsv]) H3))
  have HW : Hp ⟨w, M, I⟩ [blkO l (.loop (recO fn a2.tmps 7 apA apB D)), blkO D (.deferred (some [])), blk bs [.slice none 0 0] 57, blk Bm [.map (some m)] 59, mapO m u32V iV lst] [] W := HW
  show Exe Tryz.prog 78 [.func (.yield l) #[] #[], .pointer (some ⟨Bm, 0, none⟩)] W fun _ W3 => ∃ S' F', Hp ⟨w, M, I⟩ (blkO l (.loop (recO fn a2.tmps 7 apA apB D)) :: blkO D (.deferred (some [])) :: S') F' W3 ∧ ∀ W4, Hp ⟨w, M, I⟩ (blkO D (.deferred (some [])) :: S') F' W4 → _
  generalize hrec : recO fn a2.tmps 7 apA apB D = rec at hY HW ⊢
  have HX : Hp ⟨w, M, I⟩ [recJ l rec (apX bs) [], blk Bm [.map (some m)] 59, mapO m u32V iV lst, blkO D (.deferred (some []))] [] W := by
    have h1 := Hp.nil HW 23 1
    have h1 : Hp ⟨w, M, I⟩ [blk bs [.slice none 0 0] 57, row 23 1 (.slice none 0 0) 0 [], blkO l (.loop rec), blk Bm [.map (some m)] 59, mapO m u32V iV lst, blkO D (.deferred (some []))] [] W := Hp.keep h1
    have h2 : Hp ⟨w, M, I⟩ [apX bs [], blkO l (.loop rec), blk Bm [.map (some m)] 59, mapO m u32V iV lst, blkO D (.deferred (some []))] [] W := Hp.pack (p := fun a : SV => a.n = ([] : List Int).length) (f := fun a => [blk bs [.slice a.A a.n a.c] 57, row 23 1 (.slice a.A a.n a.c) a.n (u32sC [])]) ⟨none, 0, 0⟩ rfl h1
    have h3 : Hp ⟨w, M, I⟩ [blkO l (.loop rec), apX bs [], blk Bm [.map (some m)] 59, mapO m u32V iV lst, blkO D (.deferred (some []))] [] W := Hp.perm h2 (.swap _ _ _)
    exact Hp.pack (p := fun _ : Unit => True) (f := fun _ => [blkO l (.loop rec), apX bs []]) () trivial h3
  obtain ⟨M', I', hm, _, hk⟩ := Hp.call (A := [recJ l rec (apX bs) [], blk Bm [.map (some m)] 59, mapO m u32V iV lst]) (S := [blkO D (.deferred (some []))]) (G := []) HX fun I ha f hf => by cases hf
  refine Exe.mono (keysIt l 100000 Bm m (recJ l rec (apX bs)) hY lst hN W M' I' hm) ?_
  rintro v W3 ⟨xs, rfl, hperm, h3⟩
  have H3 := hk _ [] W3 h3
  obtain ⟨_, _, H3⟩ := Hp.unpack (show Hp ⟨w, M, I⟩ (recJ l rec (apX bs) xs :: [blk Bm [.map (some m)] 59, mapO m u32V iV lst, blkO D (.deferred (some []))]) [] W3 from H3)
  have H3 : Hp ⟨w, M, I⟩ [blkO l (.loop rec), apX bs xs, blk Bm [.map (some m)] 59, mapO m u32V iV lst, blkO D (.deferred (some []))] [] W3 := H3
  have H3 : Hp ⟨w, M, I⟩ (blkO l (.loop rec) :: blkO D (.deferred (some [])) :: [apX bs xs, blk Bm [.map (some m)] 59, mapO m u32V iV lst]) [] W3 := Hp.perm H3 (List.Perm.cons _ (by
    have : ([apX bs xs, blk Bm [.map (some m)] 59, mapO m u32V iV lst] ++ [blkO D (.deferred (some []))]).Perm ([blkO D (.deferred (some []))] ++ [apX bs xs, blk Bm [.map (some m)] 59, mapO m u32V iV lst]) := List.perm_append_comm
    exact this))
  refine ⟨[apX bs xs, blk Bm [.map (some m)] 59, mapO m u32V iV lst], [], H3, fun W4 H4 => ?_⟩
  have H4 : Hp ⟨w, M, I⟩ [apX bs xs, blk Bm [.map (some m)] 59, mapO m u32V iV lst, blkO D (.deferred (some []))] [] W4 := Hp.perm H4 (by
    have : ([blkO D (.deferred (some []))] ++ [apX bs xs, blk Bm [.map (some m)] 59, mapO m u32V iV lst]).Perm ([apX bs xs, blk Bm [.map (some m)] 59, mapO m u32V iV lst] ++ [blkO D (.deferred (some []))]) := List.perm_append_comm
    exact this)
  obtain ⟨sv, hsv, H5⟩ := Hp.unpack H4
  have H5 : Hp ⟨w, M, I⟩ [blk bs [.slice sv.A sv.n sv.c] 57, row 23 1 (.slice sv.A sv.n sv.c) sv.n (u32sC xs), blk Bm [.map (some m)] 59, mapO m u32V iV lst, blkO D (.deferred (some []))] [] W4 := H5
  show (Code.seq _ Code.ret).wpIn Fence.wide 0 Tryz.prog _ _ W4
  refine wpIn_mono (ev_sound (ro := none) (ds := [{ target := .collected D, args := #[] }]) (n := 13) tok _ (fun x e' w' => x = .ret ∧ e' 4 = .slice sv.A sv.n sv.c ∧ w' = W4) _ W4 _ rfl ⟨by show _ :: a2.defers = _; rw [hf2.1], hf2e.2.1, hf2e.2.2⟩ ?ev2) ?_
  case ev2 =>
    refine load_rule tok H5 (v := .slice sv.A sv.n sv.c) rfl ?_
    exact And.intro rfl (And.intro rfl rfl)
  rintro x a3 w3 ⟨e3, hf3, rfl, h4, rfl⟩
  show LeavesInM Fence.wide 0 Tryz.prog Tryz.f106 a3.tmps _ a3.defers .returning w3
  rw [hf3.1]
  have H6 : Hp ⟨w, M, I⟩ (blkO D (.deferred (some [])) :: [row 23 1 (.slice sv.A sv.n sv.c) sv.n (u32sC xs), blk Bm [.map (some m)] 59, mapO m u32V iV lst]) [] w3 := by
    have h := Hp.drop H5
    refine Hp.perm h ?_
    have : ([row 23 1 (.slice sv.A sv.n sv.c) sv.n (u32sC xs), blk Bm [.map (some m)] 59, mapO m u32V iV lst] ++ [blkO D (.deferred (some []))]).Perm ([blkO D (.deferred (some []))] ++ [row 23 1 (.slice sv.A sv.n sv.c) sv.n (u32sC xs), blk Bm [.map (some m)] 59, mapO m u32V iV lst]) := List.perm_append_comm
    exact this
  refine ⟨(fun h => by cases h), .inl ⟨D, _, rfl, run_takeDeferred H6.objAt, ?_⟩⟩
  refine ⟨_, results_tmp rfl a3.tmps Tryz.prog _, _, rfl, (sv, xs), ?_, ⟨hperm, hsv⟩, Hp.drop (Hp.put (o' := .deferred none) H6)⟩
  rw [hf3.2.2 4, h4]
/-! Collected, sorted; the loans of a ledger. -/
theorem collectU (Bm m : Nat) (lst : List (Int × Int)) (hN : lst.length ≤ 100000) (w : World) (M I : BS) (H : Hp ⟨w, M, I⟩ [blk Bm [.map (some m)] 59, mapO m u32V iV lst] [] w) :
    Ctr Tryz.prog 76 [.func (.func 78) #[] #[.pointer (some ⟨Bm, 0, none⟩)]] w M I (fun a : SV × List Int => .slice a.1.A a.1.n a.1.c) (fun a => a.2.Perm (lst.map (·.1)) ∧ a.1.n = a.2.length) (fun a => [row 23 1 (.slice a.1.A a.1.n a.1.c) a.1.n (u32sC a.2)]) (fun _ => []) := by
  refine Exe.of_ev tok Tryz.call76 Tryz.func76 rfl rfl rfl ?_
  refine call_rule H (fun M I _ h => appendSeq Bm m lst hN _ M I h) fun a w1 ha H1 => ?_
  exact Exists.intro a (And.intro rfl (And.intro ha (Hp.keep H1)))
theorem sortedU (Bm m : Nat) (lst : List (Int × Int)) (hN : lst.length ≤ 12) (w : World) (M I : BS) (H : Hp ⟨w, M, I⟩ [blk Bm [.map (some m)] 59, mapO m u32V iV lst] [] w) :
    Ctr Tryz.prog 47 [.func (.func 78) #[] #[.pointer (some ⟨Bm, 0, none⟩)]] w M I (fun a : SV × List Int => .slice a.1.A a.1.n a.1.c) (fun a => a.2.Perm (lst.map (·.1)) ∧ srtU a.2 ∧ a.1.n = a.2.length) (fun a => [row 23 1 (.slice a.1.A a.1.n a.1.c) a.1.n (u32sC a.2)]) (fun _ => []) := by
  refine Exe.of_ev tok Tryz.call47 Tryz.func47 rfl rfl rfl ?_
  refine call_rule H (fun M I _ h => collectU Bm m lst (by omega) _ M I h) fun a => ?_
  rcases a with ⟨⟨A, n, c⟩, xs⟩
  intro w1 ha H1
  simp only at ha H1
  have hlen : xs.length = lst.length := by have := ha.1.length_eq; simpa using this
  have hn := ha.2
  by_cases h0 : n = 0
  · have hx : xs = [] := List.length_eq_zero_iff.1 (by omega)
    subst hx
    have hA : A = none ∧ c = 0 ∨ ∃ b, A = some ⟨b, 0, none⟩ := by
      obtain ⟨fa, hf⟩ := Hp.own (A := row 23 1 (.slice A n c) n (u32sC [])) (hp := ⟨.refl _⟩) H1
      obtain ⟨⟨_, q⟩, _⟩ := hf
      rcases q with ⟨e, _⟩ | ⟨g, cap, cur, e, _⟩
      · left; injection e with e1 e2 e3; exact ⟨e1, e3⟩
      · right; injection e with e1 e2 e3; exact ⟨g, e1⟩
    subst h0
    rcases hA with ⟨rfl, rfl⟩ | ⟨b, rfl⟩
    · refine call_rule H1 (fun M I _ h => sortNilU _ M I h) fun _ w2 _ H2 => ?_
      exact Exists.intro (⟨none, 0, 0⟩, []) (And.intro rfl (And.intro ⟨ha.1, List.Pairwise.nil, rfl⟩ (Hp.keep H2)))
    · refine call_rule H1 (fun M I _ h => sortU b 0 c (by decide) [] rfl _ M I h) fun l w2 hl H2 => ?_
      have hl0 : l = [] := List.length_eq_zero_iff.1 (by have := hl.1.length_eq; simpa using this)
      subst hl0
      exact Exists.intro (⟨some ⟨b, 0, none⟩, 0, c⟩, []) (And.intro rfl (And.intro ⟨ha.1, List.Pairwise.nil, rfl⟩ (Hp.keep H2)))
  · obtain ⟨b, rfl⟩ := H1.rowSome (A := A) (n := n) (c := c) h0
    refine call_rule H1 (fun M I _ h => sortU b n c (by omega) xs hn.symm _ M I h) fun l w2 hl H2 => ?_
    exact Exists.intro (⟨some ⟨b, 0, none⟩, n, c⟩, l) (And.intro rfl (And.intro ⟨hl.1.trans ha.1, hl.2, by show n = l.length; rw [hn, hl.1.length_eq]⟩ (Hp.keep H2)))
theorem keysU (m : Nat) (lst : List (Int × Int)) (w : World) (M I : BS) (H : Hp ⟨w, M, I⟩ [mapO m u32V iV lst] [] w) :
    Ctr Tryz.prog 48 [.map (some m)] w M I (fun b : Nat => .func (.func 78) #[] #[.pointer (some ⟨b, 0, none⟩)]) (fun _ => True) (fun b => [blk b [.map (some m)] 59, mapO m u32V iV lst]) (fun _ => []) := by
  refine Exe.of_ev tok Tryz.call48 Tryz.func48 rfl rfl rfl ?_
  refine box_as H [.map (some m)] rfl fun b w1 H1 => ?_
  refine Exists.intro b (And.intro ?_ (And.intro trivial (Hp.keep H1)))
  show Value.func (.func 78) (#[].map _) (#[_].map _) = _
  simp
  rfl
end Go.Proofs.YtfemfomgmopibaaGreatDoor
