/- Sorting few legs. -/
import Derived.Test.YtenpgmnknmnofaaDoorT5
namespace Go.Proofs.YtenpgmnknmnofaaDoor
open Go Go.Proofs Go.Wk
structure Leg where
  acct : Int
  amt : Int
deriving DecidableEq
@[reducible] def legV (x : Leg) : Value := .agg #[.int .u8 x.acct, .int .i64 x.amt]
@[reducible] def legR : Rp Leg := ⟨2, Unit, fun x _ => [.int .u8 x.acct, .int .i64 x.amt], fun x _ => inK .u8 x.acct ∧ inK .i64 x.amt, fun _ _ => [], fun _ _ => rfl⟩
def legsC : List Leg → List Value
  | [] => []
  | x :: r => .int .u8 x.acct :: .int .i64 x.amt :: legsC r
theorem legsC_len : ∀ ls : List Leg, (legsC ls).length = ls.length * 2
  | [] => rfl
  | x :: r => by simp only [legsC, List.length_cons, legsC_len r]; omega
theorem legsC_drop : ∀ (ls : List Leg) (j : Nat), (legsC ls).drop (j * 2) = legsC (ls.drop j)
  | ls, 0 => by simp
  | [], j + 1 => by simp [legsC]
  | x :: r, j + 1 => by
    rw [show (j + 1) * 2 = j * 2 + 1 + 1 by omega]
    simp only [legsC, List.drop_succ_cons]
    exact legsC_drop r j
theorem legsC_app : ∀ a b : List Leg, legsC (a ++ b) = legsC a ++ legsC b
  | [], _ => rfl
  | x :: a, b => by simp [legsC, legsC_app a b]
theorem legs_get {ls : List Leg} {j : Nat} {x : Leg} (h : ls[j]? = some x) : ldV (tb 40) (legsC ls) (0 + j * 2) = some (legV x) := by
  obtain ⟨hj, _⟩ := List.getElem?_eq_some_iff.1 h
  have hd : ls.drop j = x :: ls.drop (j + 1) := by
    rw [List.drop_eq_getElem_cons hj]
    rw [List.getElem?_eq_getElem hj] at h
    rw [Option.some.inj h]
  show (bif Nat.ble (0 + j * 2 + 2) (legsC ls).length then some (Value.agg (((legsC ls).drop (0 + j * 2)).take 2).toArray) else none) = _
  rw [Nat.zero_add, legsC_drop, hd]
  have : Nat.ble (j * 2 + 2) (legsC ls).length = true := by rw [Nat.ble_eq, legsC_len]; omega
  rw [this]
  rfl
theorem legs_set : ∀ (ls : List Leg) (j : Nat) (x : Leg), setL (legsC ls) (0 + j * 2) [.int .u8 x.acct, .int .i64 x.amt] = legsC (ls.set j x)
  | [], j, x => by simp [legsC, setL]
  | y :: r, 0, x => rfl
  | y :: r, j + 1, x => by
    have ih := legs_set r j x
    rw [show 0 + (j + 1) * 2 = 0 + j * 2 + 1 + 1 by omega]
    simp only [legsC, setL, List.set_cons_succ] at ih ⊢
    rw [← ih]
theorem str_idx {P : Program} {T : Tab} {K : Value → World → Prop} {w : World} (hT : T.Ok P) {t : TypeId} {it : TypeInfo} {s : ByteArray} {kd : IntKind} {j : Int} (ht : T t = some ⟨.string, it⟩) (h0 : 0 ≤ j) (h1 : j.toNat < s.size) (k : ∀ b : Int, 0 ≤ b → b ≤ 255 → K (.int .u8 b) w) : IndexK P K w t (.string s) (.int kd j) := by
  obtain ⟨b, hb⟩ : ∃ b, s[j.toNat]? = some b := ⟨_, getElem?_pos s j.toNat h1⟩
  refine IndexK.of (v := .int .u8 b.toNat) (w' := w) ?_ (k b.toNat (by omega) (by have := b.toNat_lt; omega))
  simp [Instr.index, asIntOf, run_und hT ht, h0, hb]
@[reducible] def CI (g : Nat) (args : List Value) : Prop := ∀ (w : World) (M I : BS), Hp ⟨w, M, I⟩ [] [] w → Ctr Tryd.prog g args w M I (fun v : Int => .int .i64 v) (fun _ => True) (fun _ => []) (fun _ => [])
theorem len64 (x : Int) (h0 : 0 ≤ x) (h1 : x ≤ 200) : CI 61 [.int .u64 x] := by
  intro w M I H
  refine Exe.of_ev tok Tryd.call61 Tryd.func61 rfl rfl rfl ?_
  refine brd (fun h => ?_) (fun _ => ?_)
  · omega
  refine brd (fun h => ?_) (fun _ => ?_)
  · omega
  refine brd (fun h => ?_) (fun _ => ?_)
  · omega
  have e : IntKind.u8.wrap x = x := wrap_id ⟨by simpa [kLo] using h0, by simp only [kHi]; omega⟩
  refine str_idx tok rfl (by rw [e]; exact h0) (by rw [e]; exact Nat.lt_of_lt_of_le (show x.toNat < 201 by omega) (Nat.le_of_ble_eq_true (by kernel_rfl))) fun b hb0 hb1 => ?_
  exact Exists.intro _ (And.intro rfl (And.intro trivial H))
theorem len_ (x : Int) (h0 : 0 ≤ x) (h1 : x ≤ 200) : CI 41 [.int .u64 x] := by
  intro w M I H
  refine Exe.of_ev tok Tryd.call41 Tryd.func41 rfl rfl rfl ?_
  refine call_rule H (fun M I _ h => len64 x h0 h1 _ M I h) fun v w1 _ H1 => ?_
  exact Exists.intro v (And.intro rfl (And.intro trivial H1))
theorem cmpLeg (a b : Leg) : CB 23 [legV a, legV b] (.int .i64 (cmpI a.acct b.acct)) := by
  intro w M I H
  refine Exe.of_ev tok Tryd.call23 Tryd.func23 rfl rfl rfl ?_
  refine box_as H [.int .u8 a.acct, .int .i64 a.amt] rfl fun x w1 H1 => ?_
  refine box_as H1 [.int .u8 b.acct, .int .i64 b.amt] rfl fun y w2 H2 => ?_
  refine load_rule tok H2 rfl ?_
  refine load_rule tok H2 rfl ?_
  refine call_rule H2 (fun M I _ h => cmp5 a.acct b.acct _ M I h) fun _ w3 _ H3 => ?_
  exact Exists.intro () (And.intro rfl (And.intro trivial H3.dropAll))
def srt (l : List Leg) : Prop := l.Pairwise fun a b => a.acct ≤ b.acct
theorem insSort (g n c : Nat) (hn : n ≤ 1000000) (ls : List Leg) (hl : ls.length = n) (w : World) (M I : BS) (H : Hp ⟨w, M, I⟩ [row 40 2 (.slice (some ⟨g, 0, none⟩) n c) n (legsC ls)] [] w) :
    Ctr Tryd.prog 52 [.slice (some ⟨g, 0, none⟩) n c, .int .i64 0, .int .i64 n, .func (.func 23) #[] #[]] w M I (fun _ : List Leg => .tuple #[]) (fun l => l.Perm ls ∧ srt l) (fun l => [row 40 2 (.slice (some ⟨g, 0, none⟩) n c) n (legsC l)]) (fun _ => []) := by
  refine Exe.of_ev tok Tryd.call52 Tryd.func52 rfl rfl rfl ?_
  refine loop_rule tok (σ := Nat × List Leg) 9007199254737664 (fun s => [(8, .int .i64 s.1)]) (fun s w' => 1 ≤ s.1 ∧ s.1 ≤ 1000001 ∧ s.2.Perm ls ∧ srt (s.2.take s.1) ∧ Hp ⟨w, M, I⟩ [row 40 2 (.slice (some ⟨g, 0, none⟩) n c) n (legsC s.2)] [] w') (fun s => n - s.1) (1, ls) rfl rfl ⟨rfl, trivial⟩ ⟨Nat.le_refl _, by simp, .refl _, ?_, H⟩ ?_
  · cases ls with
    | nil => exact List.Pairwise.nil
    | cons x r => simp [srt]
  rintro ⟨i, l1⟩ j0 w1 ⟨hi, hi2, hp, hs, H1⟩
  simp only at hi hi2 hp hs H1
  refine brd (fun h => ?_) (fun h => ?_)
  · have hlt : i < n := by omega
    have hl1 : l1.length = n := by rw [hp.length_eq, hl]
    obtain ⟨pre, y, rest, rfl, hpre⟩ : ∃ pre y rest, l1 = pre ++ y :: rest ∧ pre.length = i := by
      refine ⟨l1.take i, l1[i], l1.drop (i + 1), ?_, by rw [List.length_take]; omega⟩
      rw [List.getElem_cons_drop, List.take_append_drop]
    rw [← hpre, List.take_left] at hs
    refine loop_rule tok (σ := List Leg × List Leg) 9007199254479360 (fun s => [(9, .int .i64 s.1.length)]) (fun s w' => s.1 ++ s.2 = pre ∧ (∀ z, z ∈ s.2 → y.acct ≤ z.acct) ∧ Hp ⟨w, M, I⟩ [row 40 2 (.slice (some ⟨g, 0, none⟩) n c) n (legsC (s.1 ++ y :: (s.2 ++ rest)))] [] w') (fun s => s.1.length) (pre, []) rfl rfl ⟨?_, trivial⟩ ⟨by simp, by simp, by simpa using H1⟩ ?_
    · show Value.int .i64 _ = _
      rw [hpre]
    rintro ⟨p, s⟩ j1 w2 ⟨e, hz, H2⟩
    simp only at e hz H2
    have hps := congrArg List.length e
    have hll : pre.length + 1 + rest.length = n := by rw [← hl1]; simp; omega
    simp only [List.length_append] at hps
    have fin : ∀ w3, srt (p ++ y :: s) → Hp ⟨w, M, I⟩ [row 40 2 (.slice (some ⟨g, 0, none⟩) n c) n (legsC (p ++ y :: (s ++ rest)))] [] w3 → (p ++ y :: (s ++ rest)).Perm ls ∧ srt ((p ++ y :: (s ++ rest)).take (i + 1)) := fun w3 h1 _ => by
      refine ⟨?_, ?_⟩
      · refine List.Perm.trans ?_ hp
        have e1 : pre ++ y :: rest = p ++ (s ++ y :: rest) := by rw [← e]; simp
        have e2 : p ++ y :: (s ++ rest) = p ++ (y :: s ++ rest) := by simp
        rw [e1, e2]
        refine List.Perm.append_left p ?_
        exact (List.perm_middle (a := y) (l₁ := s) (l₂ := rest)).symm
      · have e2 : p ++ y :: (s ++ rest) = (p ++ y :: s) ++ rest := by simp
        rw [e2, List.take_left' (by simp <;> omega)]
        exact h1
    have hs' : srt (p ++ s) := by rw [e]; exact hs
    obtain ⟨hsp, hss, hsc⟩ := List.pairwise_append.1 hs'
    rcases List.eq_nil_or_concat p with hpe | ⟨p', x, hpe⟩
    · subst hpe
      refine draw_rule (A := []) tok tdr H2 [0, 1, 2, 3, 4, 5, 6, 7, 8, 9, 10, 11, 12, 13, 14, 15, 16] [0, 0, 3, 7, 15, 15, 15, 111, 239, 15, 15, 1039, 3599, 7695, 16383, 32767, 65535] rfl ?_
      refine done_rule fun w3 H3 => ?_
      have hf := fin w3 (List.pairwise_cons.2 ⟨fun z hz' => hz z hz', hss⟩) H3
      refine Exists.intro (i + 1, [] ++ y :: (s ++ rest)) (And.intro ⟨?_, trivial⟩ (And.intro ?_ ⟨by simp only; omega, by simp only; omega, hf.1, hf.2, H3⟩))
      · show Value.int .i64 (IntKind.i64.wrap (i + 1)) = _
        rw [w64 (by omega) (by omega)]; rfl
      · simp only; omega
    · rw [List.concat_eq_append] at hpe
      subst hpe
      simp only [List.length_append, List.length_cons, List.length_nil] at hps
      have hy : (p' ++ [x] ++ y :: (s ++ rest))[(((p' ++ [x]).length : Nat) : Int).toNat]? = some y := by simp
      have hx : (p' ++ [x] ++ y :: (s ++ rest))[(IntKind.i64.wrap ((((p' ++ [x]).length : Nat) : Int) - 1)).toNat]? = some x := by
        rw [w64 (by simp <;> omega) (by simp <;> omega)]
        simp
      have i1 : (0 : Int) ≤ (((p' ++ [x]).length : Nat) : Int) := by omega
      have i2 : (((p' ++ [x]).length : Nat) : Int) < n := by simp <;> omega
      have i3 : (0 : Int) ≤ IntKind.i64.wrap ((((p' ++ [x]).length : Nat) : Int) - 1) := by rw [w64 (by simp <;> omega) (by simp <;> omega)]; simp
      have i4 : IntKind.i64.wrap ((((p' ++ [x]).length : Nat) : Int) - 1) < n := by rw [w64 (by simp <;> omega) (by simp <;> omega)]; simp <;> omega
      refine draw_rule (A := []) tok tdr H2 [0, 1, 2, 3, 4, 5, 6, 7, 8, 9, 10, 11, 12, 13, 14, 15, 16] [0, 0, 3, 7, 15, 15, 15, 111, 239, 15, 15, 1039, 3599, 7695, 16383, 32767, 65535] rfl ?_
      refine brd (fun q => ?_) (fun q => ?_)
      · refine pass_rule _ (fun w h => idx_own tok rfl rfl i1 i2 ⟨rfl, rfl⟩) ?_
        refine pass_rule _ (fun w h => row_ld tok h (legV y) (legs_get hy) ⟨rfl, rfl⟩) ?_
        refine pass_rule _ (fun w h => idx_own tok rfl rfl i3 i4 ⟨rfl, rfl⟩) ?_
        refine pass_rule _ (fun w h => row_ld tok h (legV x) (legs_get hx) ⟨rfl, rfl⟩) ?_
        refine imp_rule (fun X w h => call_rule h (fun M I _ h => cmpLeg y x _ M I h) fun _ w1 _ H1 => imp_done H1 ?_)
        refine done_rule fun w3 H3 => ?_
        refine brd (fun q2 => ?_) (fun q2 => ?_)
        · have hlt : y.acct < x.acct := by
            unfold cmpI at q2
            split at q2
            · assumption
            · split at q2 <;> simp at q2
          have hln : (legsC (p' ++ [x] ++ y :: (s ++ rest))).length = n * 2 := by rw [legsC_len]; simp; omega
          have hb1 : 0 + (((p' ++ [x]).length : Nat) : Int).toNat * 2 + 2 ≤ (legsC (p' ++ [x] ++ y :: (s ++ rest))).length := by rw [hln]; omega
          have hb2 : 0 + (IntKind.i64.wrap ((((p' ++ [x]).length : Nat) : Int) - 1)).toNat * 2 + 2 ≤ (setL (legsC (p' ++ [x] ++ y :: (s ++ rest))) (0 + (((p' ++ [x]).length : Nat) : Int).toNat * 2) [.int .u8 x.acct, .int .i64 x.amt]).length := by rw [length_setL, hln]; omega
          refine draw_rule (A := [row 40 2 (.slice (some ⟨g, 0, none⟩) n c) n (legsC (p' ++ [x] ++ y :: (s ++ rest)))]) tok tdr H3 [0, 1, 5, 6, 7, 8, 9, 10, 11, 12, 13, 14, 15, 2, 3, 4, 16, 17] [0, 0, 0, 0, 8, 0, 0, 64, 224, 480, 0, 0, 3072, 7168, 16355, 32739, 65535, 131071] rfl ?_
          refine pass_rule _ (fun w h => idx_own tok rfl rfl i3 i4 ⟨rfl, rfl⟩) ?_
          refine pass_last _ rfl (fun X w h => row_ld tok h (legV x) (legs_get hx) ⟨rfl, rfl⟩) ?_
          refine pass_rule _ (fun w h => idx_own tok rfl rfl i1 i2 ⟨rfl, rfl⟩) ?_
          refine pass_last _ rfl (fun X w h => row_ld tok h (legV y) (legs_get hy) ⟨rfl, rfl⟩) ?_
          refine pass_rule _ (fun w h => idx_own tok rfl rfl i1 i2 ⟨rfl, rfl⟩) ?_
          refine imp_rule (fun X w h => row_st tok h rfl rfl hb1 rfl fun w' H' => imp_done H' ?_)
          refine pass_rule _ (fun w h => idx_own tok rfl rfl i3 i4 ⟨rfl, rfl⟩) ?_
          refine imp_rule (fun X w h => row_st tok h rfl rfl hb2 rfl fun w' H' => imp_done H' ?_)
          refine done_rule fun w4 H4 => ?_
          refine Exists.intro (p', x :: s) (And.intro ⟨?_, trivial⟩ (And.intro ?_ ⟨?_, ?_, ?_⟩))
          · show Value.int .i64 (IntKind.i64.wrap _) = _
            rw [w64 (by simp <;> omega) (by simp <;> omega)]; simp
          · simp
          · simpa using e
          · intro z hz'
            rcases List.mem_cons.1 hz' with rfl | hz'
            · exact Int.le_of_lt hlt
            · exact hz z hz'
          · have ee : setL (setL (legsC (p' ++ [x] ++ y :: (s ++ rest))) (0 + (((p' ++ [x]).length : Nat) : Int).toNat * 2) [.int .u8 x.acct, .int .i64 x.amt]) (0 + (IntKind.i64.wrap ((((p' ++ [x]).length : Nat) : Int) - 1)).toNat * 2) [.int .u8 y.acct, .int .i64 y.amt] = legsC (p' ++ y :: (x :: s ++ rest)) := by
              rw [legs_set, legs_set, w64 (by simp <;> omega) (by simp <;> omega)]
              congr 1
              simp
            rw [← ee]
            exact H4
        · have hle : x.acct ≤ y.acct := by
            unfold cmpI at q2
            split at q2
            · simp at q2
            · omega
          have hf := fin w3 (by
            refine List.pairwise_append.2 ⟨hsp, List.pairwise_cons.2 ⟨fun z hz' => hz z hz', hss⟩, fun u hu v hv => ?_⟩
            rcases List.mem_cons.1 hv with rfl | hv
            · rcases List.mem_append.1 hu with hu | hu
              · exact Int.le_trans ((List.pairwise_append.1 hsp).2.2 u hu x (by simp)) hle
              · simp only [List.mem_singleton] at hu; subst hu; exact hle
            · exact hsc u hu v hv) H3
          refine Exists.intro (i + 1, p' ++ [x] ++ y :: (s ++ rest)) (And.intro ⟨?_, trivial⟩ (And.intro ?_ ⟨by simp only; omega, by simp only; omega, hf.1, hf.2, H3⟩))
          · show Value.int .i64 (IntKind.i64.wrap (i + 1)) = _
            rw [w64 (by omega) (by omega)]; rfl
          · simp only; omega
      · exact absurd q (by simp <;> omega)
  · exact Exists.intro l1 (And.intro rfl (And.intro ⟨hp, by rwa [List.take_of_length_le (by have := hp.length_eq; omega)] at hs⟩ H1))
theorem pdq (g n c : Nat) (hn : n ≤ 12) (z : Int) (ls : List Leg) (hl : ls.length = n) (w : World) (M I : BS) (H : Hp ⟨w, M, I⟩ [row 40 2 (.slice (some ⟨g, 0, none⟩) n c) n (legsC ls)] [] w) :
    Ctr Tryd.prog 40 [.slice (some ⟨g, 0, none⟩) n c, .int .i64 0, .int .i64 n, .int .i64 z, .func (.func 23) #[] #[]] w M I (fun _ : List Leg => .tuple #[]) (fun l => l.Perm ls ∧ srt l) (fun l => [row 40 2 (.slice (some ⟨g, 0, none⟩) n c) n (legsC l)]) (fun _ => []) := by
  refine Exe.of_ev tok Tryd.call40 Tryd.func40 rfl rfl rfl ?_
  refine loop_rule tok (σ := Unit) 356811923176489970264571492362373784095685646 (fun _ => [(1, .int .i64 0), (2, .int .i64 n)]) (fun _ w' => Hp ⟨w, M, I⟩ [row 40 2 (.slice (some ⟨g, 0, none⟩) n c) n (legsC ls)] [] w') (fun _ => 0) () rfl rfl ⟨rfl, rfl, trivial⟩ H ?_
  rintro ⟨⟩ j w1 H1
  have e : IntKind.i64.wrap ((n : Int) - 0) = n := by rw [Int.sub_zero]; exact w64 (by omega) (by omega)
  refine brd (fun h => ?_) (fun h => ?_)
  · refine call_rule H1 (fun M I _ h => insSort g n c (by omega) ls hl _ M I h) fun l w2 hφ H2 => ?_
    exact Exists.intro l (And.intro rfl (And.intro hφ H2))
  · rw [e] at h; omega
theorem sortFew (g n c : Nat) (hn : n ≤ 12) (ls : List Leg) (hl : ls.length = n) (w : World) (M I : BS) (H : Hp ⟨w, M, I⟩ [row 40 2 (.slice (some ⟨g, 0, none⟩) n c) n (legsC ls)] [] w) :
    Ctr Tryd.prog 22 [.slice (some ⟨g, 0, none⟩) n c, .func (.func 23) #[] #[]] w M I (fun _ : List Leg => .tuple #[]) (fun l => l.Perm ls ∧ srt l) (fun l => [row 40 2 (.slice (some ⟨g, 0, none⟩) n c) n (legsC l)]) (fun _ => []) := by
  refine Exe.of_ev tok Tryd.call22 Tryd.func22 rfl rfl rfl ?_
  have e : IntKind.u64.wrap (n : Int) = n := wrap_id ⟨by simp [kLo], by simp only [kHi]; omega⟩
  refine call_rule H (fun M I _ h => (by rw [e]; exact len_ n (by omega) (by omega) _ M I h)) fun z w1 _ H1 => ?_
  refine call_rule H1 (fun M I _ h => pdq g n c hn z ls hl _ M I h) fun l w2 hφ H2 => ?_
  exact Exists.intro l (And.intro rfl (And.intro hφ H2))
theorem insNil : CB 52 [.slice none 0 0, .int .i64 0, .int .i64 0, .func (.func 23) #[] #[]] (.tuple #[]) := by
  intro w M I H
  refine Exe.of_ev tok Tryd.call52 Tryd.func52 rfl rfl rfl ?_
  refine loop_rule tok (σ := Unit) 9007199254737664 (fun s => [(8, .int .i64 1)]) (fun _ w' => Hp ⟨w, M, I⟩ [] [] w') (fun _ => 0) () rfl rfl ⟨rfl, trivial⟩ H ?_
  rintro ⟨⟩ j0 w1 H1
  exact Exists.intro () (And.intro rfl (And.intro trivial H1))
theorem pdqNil (z : Int) : CB 40 [.slice none 0 0, .int .i64 0, .int .i64 0, .int .i64 z, .func (.func 23) #[] #[]] (.tuple #[]) := by
  intro w M I H
  refine Exe.of_ev tok Tryd.call40 Tryd.func40 rfl rfl rfl ?_
  refine loop_rule tok (σ := Unit) 356811923176489970264571492362373784095685646 (fun _ => [(1, .int .i64 0), (2, .int .i64 0)]) (fun _ w' => Hp ⟨w, M, I⟩ [] [] w') (fun _ => 0) () rfl rfl ⟨rfl, rfl, trivial⟩ H ?_
  rintro ⟨⟩ j w1 H1
  refine call_rule H1 (fun M I _ h => insNil _ M I h) fun l w2 hφ H2 => ?_
  exact Exists.intro () (And.intro rfl (And.intro trivial H2))
theorem sortNil : CB 22 [.slice none 0 0, .func (.func 23) #[] #[]] (.tuple #[]) := by
  intro w M I H
  refine Exe.of_ev tok Tryd.call22 Tryd.func22 rfl rfl rfl ?_
  refine call_rule H (fun M I _ h => len_ 0 (by omega) (by omega) _ M I h) fun z w1 _ H1 => ?_
  refine call_rule H1 (fun M I _ h => pdqNil z _ M I h) fun l w2 hφ H2 => ?_
  exact Exists.intro () (And.intro rfl (And.intro trivial H2))
def in64 (n : Int) : Bool := decide (-9223372036854775808 ≤ n) && decide (n ≤ 9223372036854775807)
def addV (a b : Int) : Value := if in64 (a + b) then .tuple #[.int .i64 (a + b), .nilIface] else .tuple #[.int .i64 0, .iface 36 (.int .i64 12)]
theorem wrap_hi {n : Int} (h1 : 9223372036854775807 < n) (h2 : n ≤ 18446744073709551614) : IntKind.i64.wrap n = n - 18446744073709551616 := by
  simp [IntKind.wrap, IntKind.signed, IntKind.bits]; omega
theorem wrap_lo {n : Int} (h1 : n < -9223372036854775808) (h2 : -18446744073709551616 ≤ n) : IntKind.i64.wrap n = n + 18446744073709551616 := by
  simp [IntKind.wrap, IntKind.signed, IntKind.bits]; omega
theorem addV_no {a b : Int} (en : in64 (a + b) = false) : Value.tuple #[.int .i64 0, .iface 36 (.int .i64 12)] = addV a b := by unfold addV; rw [en]; rfl
theorem addV_ok {a b : Int} (en : in64 (a + b) = true) : Value.tuple #[.int .i64 (a + b), .nilIface] = addV a b := by unfold addV; rw [en]; rfl
theorem add (a b : Int) (ha : inK .i64 a) (hb : inK .i64 b) : CB 21 [.int .i64 a, .int .i64 b] (addV a b) := by
  intro w M I H
  obtain ⟨a1, a2⟩ := ha
  obtain ⟨b1, b2⟩ := hb
  simp only [kLo, kHi] at a1 a2 b1 b2
  refine Exe.of_ev tok Tryd.call21 Tryd.func21 rfl rfl rfl ?_
  rcases (show 9223372036854775807 < a + b ∨ a + b < -9223372036854775808 ∨ (-9223372036854775808 ≤ a + b ∧ a + b ≤ 9223372036854775807) by omega) with h | h | ⟨h, h'⟩
  · have e := wrap_hi h (by omega)
    have en : in64 (a + b) = false := by unfold in64; rw [decide_eq_false (show ¬ a + b ≤ 9223372036854775807 by omega), Bool.and_false]
    refine brd (fun q => ?_) (fun q => ?_)
    · refine brd (fun q2 => ?_) (fun q2 => ?_)
      · exact Exists.intro () (And.intro (addV_no en) (And.intro trivial H))
      · exact absurd q2 (by rw [e]; omega)
    · exact absurd q (by omega)
  · have e := wrap_lo h (by omega)
    have en : in64 (a + b) = false := by unfold in64; rw [decide_eq_false (show ¬ -9223372036854775808 ≤ a + b by omega), Bool.false_and]
    refine brd (fun q => ?_) (fun q => ?_)
    · exact absurd q (show ¬ 0 < b by omega)
    · refine brd (fun q2 => ?_) (fun q2 => ?_)
      · refine brd (fun q3 => ?_) (fun q3 => ?_)
        · exact Exists.intro () (And.intro (addV_no en) (And.intro trivial H))
        · exact absurd (show a < IntKind.i64.wrap (a + b) by rw [e]; omega) q3
      · exact absurd (show b < 0 by omega) q2
  · have e : IntKind.i64.wrap (a + b) = a + b := w64 (by omega) (by omega)
    have en : in64 (a + b) = true := by unfold in64; rw [decide_eq_true h, decide_eq_true h']; rfl
    have fin : Value.tuple #[.int .i64 (IntKind.i64.wrap (a + b)), .nilIface] = addV a b := by unfold addV; rw [en, e]; rfl
    refine brd (fun q => ?_) (fun q => ?_)
    · refine brd (fun q2 => ?_) (fun q2 => ?_)
      · exact absurd q2 (show ¬ IntKind.i64.wrap (a + b) < a by rw [e]; omega)
      · refine brd (fun q3 => ?_) (fun q3 => ?_)
        · exact absurd q3 (show ¬ b < 0 by omega)
        · exact Exists.intro () (And.intro fin (And.intro trivial H))
    · refine brd (fun q2 => ?_) (fun q2 => ?_)
      · refine brd (fun q3 => ?_) (fun q3 => ?_)
        · exact absurd q3 (show ¬ a < IntKind.i64.wrap (a + b) by rw [e]; omega)
        · exact Exists.intro () (And.intro fin (And.intro trivial H))
      · exact Exists.intro () (And.intro fin (And.intro trivial H))
end Go.Proofs.YtenpgmnknmnofaaDoor
