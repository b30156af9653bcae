/- The chart: entries made, added, turned: the walks (chapters 13 and 14), at this seat. -/
import Derived.Test.YtjlfjjgjghdokaaGreatDoorLy14
set_option linter.unusedVariables false
namespace Go.Proofs.YtjlfjjgjghdokaaGreatDoor
open Go Go.Proofs Go.Wk
theorem nan5 [Wk.Mode] (a : Int) : CB 178 [.int .u8 a] (.bool false) := by
  intro w M I H
  refine Exe.of_ev tok Tryz.call178 Tryz.func178 rfl rfl rfl ?_
  refine Exists.intro () (And.intro (congrArg Value.bool ?_) (And.intro trivial H))
  simp
theorem nan22 [Wk.Mode] (a : Int) : CB 159 [.int .u32 a] (.bool false) := by
  intro w M I H
  refine Exe.of_ev tok Tryz.call159 Tryz.func159 rfl rfl rfl ?_
  refine Exists.intro () (And.intro (congrArg Value.bool ?_) (And.intro trivial H))
  simp
theorem nan23 [Wk.Mode] (a : Int) : CB 158 [.int .i32 a] (.bool false) := by
  intro w M I H
  refine Exe.of_ev tok Tryz.call158 Tryz.func158 rfl rfl rfl ?_
  refine Exists.intro () (And.intro (congrArg Value.bool ?_) (And.intro trivial H))
  simp
theorem cmp5 [Wk.Mode] (a b : Int) : CB 122 [.int .u8 a, .int .u8 b] (.int .i64 (cmpI a b)) := by
  intro w M I H
  refine Exe.of_ev tok Tryz.call122 Tryz.func122 rfl rfl rfl ?_
  refine call_rule H (fun M I _ h => nan5 a _ M I h) fun _ w1 _ H1 => ?_
  refine call_rule H1 (fun M I _ h => nan5 b _ M I h) fun _ w2 _ H2 => ?_
  refine brd (fun h => ?_) (fun h => ?_)
  · exact Exists.intro () (And.intro (congrArg (Value.int .i64) (by simp [cmpI, h])) (And.intro trivial H2))
  · refine brd (fun h2 => ?_) (fun h2 => ?_)
    · exact Exists.intro () (And.intro (congrArg (Value.int .i64) (by simp [cmpI, h, h2])) (And.intro trivial H2))
    · exact Exists.intro () (And.intro (congrArg (Value.int .i64) (by simp [cmpI, h, h2])) (And.intro trivial H2))
theorem cmp22 [Wk.Mode] (a b : Int) : CB 95 [.int .u32 a, .int .u32 b] (.int .i64 (cmpI a b)) := by
  intro w M I H
  refine Exe.of_ev tok Tryz.call95 Tryz.func95 rfl rfl rfl ?_
  refine call_rule H (fun M I _ h => nan22 a _ M I h) fun _ w1 _ H1 => ?_
  refine call_rule H1 (fun M I _ h => nan22 b _ M I h) fun _ w2 _ H2 => ?_
  refine brd (fun h => ?_) (fun h => ?_)
  · exact Exists.intro () (And.intro (congrArg (Value.int .i64) (by simp [cmpI, h])) (And.intro trivial H2))
  · refine brd (fun h2 => ?_) (fun h2 => ?_)
    · exact Exists.intro () (And.intro (congrArg (Value.int .i64) (by simp [cmpI, h, h2])) (And.intro trivial H2))
    · exact Exists.intro () (And.intro (congrArg (Value.int .i64) (by simp [cmpI, h, h2])) (And.intro trivial H2))
theorem cmp23 [Wk.Mode] (a b : Int) : CB 94 [.int .i32 a, .int .i32 b] (.int .i64 (cmpI a b)) := by
  intro w M I H
  refine Exe.of_ev tok Tryz.call94 Tryz.func94 rfl rfl rfl ?_
  refine call_rule H (fun M I _ h => nan23 a _ M I h) fun _ w1 _ H1 => ?_
  refine call_rule H1 (fun M I _ h => nan23 b _ M I h) fun _ w2 _ H2 => ?_
  refine brd (fun h => ?_) (fun h => ?_)
  · exact Exists.intro () (And.intro (congrArg (Value.int .i64) (by simp [cmpI, h])) (And.intro trivial H2))
  · refine brd (fun h2 => ?_) (fun h2 => ?_)
    · exact Exists.intro () (And.intro (congrArg (Value.int .i64) (by simp [cmpI, h, h2])) (And.intro trivial H2))
    · exact Exists.intro () (And.intro (congrArg (Value.int .i64) (by simp [cmpI, h, h2])) (And.intro trivial H2))
theorem orOf [Wk.Mode] (l : List Int) (n : Nat) (hl : l.length ≤ 1000) (w : World) (M I : BS) (H : Hp ⟨w, M, I⟩ [blk n (l.map (Value.int .i64)) 3] [] w) :
    Ctr Tryz.prog 93 [.slice (some ⟨n, 0, none⟩) l.length l.length] w M I (fun _ : Unit => .int .i64 (orL l)) (fun _ => True) (fun _ => []) (fun _ => []) := by
  refine Exe.of_ev tok Tryz.call93 Tryz.func93 rfl rfl rfl ?_
  refine loop_rule tok (σ := Nat) 130852 (fun i => [(3, .int .i64 0), (8, .int .i64 i)]) (fun i w' => i ≤ l.length ∧ orL l = orL (l.drop i) ∧ Hp ⟨w, M, I⟩ [blk n (l.map (Value.int .i64)) 3] [] w') (fun i => l.length - i) 0 rfl rfl ⟨rfl, rfl, trivial⟩ ⟨Nat.zero_le _, rfl, H⟩ ?_
  rintro i j w1 ⟨hi, ho, H1⟩
  refine brd (fun h => ?_) (fun h => ?_)
  · have hlt : i < l.length := by omega
    obtain ⟨x, hx⟩ : ∃ x, l[i]? = some x := ⟨_, List.getElem?_eq_getElem hlt⟩
    have hd : l.drop i = x :: l.drop (i + 1) := by
      rw [List.drop_eq_getElem_cons hlt]
      rw [List.getElem?_eq_getElem hlt] at hx
      rw [Option.some.inj hx]
    refine idx_own tok rfl rfl (by omega) (by omega) ?_
    refine load_rule tok H1 (v := .int .i64 x) ?_ ?_
    · show (l.map (Value.int .i64))[0 + (Int.toNat (i : Int)) * 1]? = _
      simp [hx]
    · refine br (fun h2 => ?_) (fun h2 => ?_)
      · refine Exists.intro () (And.intro (congrArg (Value.int .i64) ?_) (And.intro trivial H1.drop))
        rw [ho, hd, orL, if_pos (by simpa using h2)]
      · refine Exists.intro (i + 1) (And.intro ⟨rfl, ?_, trivial⟩ (And.intro (by omega) ⟨by omega, ?_, H1⟩))
        · show Value.int .i64 (IntKind.i64.wrap (i + 1)) = _
          rw [w64 (by omega) (by omega)]; rfl
        · rw [ho, hd, orL, if_neg (by simpa using h2)]
  · refine Exists.intro () (And.intro (congrArg (Value.int .i64) ?_) (And.intro trivial H1.drop))
    rw [ho, List.drop_eq_nil_of_le (by omega), orL]
theorem or4 [Wk.Mode] (a b c d : Int) (n : Nat) (w : World) (M I : BS) (H : Hp ⟨w, M, I⟩ [blk n [.int .i64 a, .int .i64 b, .int .i64 c, .int .i64 d] 3] [] w) :
    Ctr Tryz.prog 93 [.slice (some ⟨n, 0, none⟩) 4 4] w M I (fun _ : Unit => .int .i64 (orL [a, b, c, d])) (fun _ => True) (fun _ => []) (fun _ => []) := orOf [a, b, c, d] n (by simp) w M I H
theorem less [Wk.Mode] (a b : Key) : CB 68 [keyV a, keyV b] (.bool (lessB a b)) := by
  intro w M I H
  refine Exe.of_ev tok Tryz.call68 Tryz.func68 rfl rfl rfl ?_
  refine box_as H (keyC a) rfl fun x w1 H1 => ?_
  refine box_as H1 (keyC b) rfl fun y w2 H2 => ?_
  refine draw_rule (A := []) tok tdr H2 [0, 1, 2, 3, 4, 5, 6, 7, 8, 9, 10, 11, 12, 13, 14, 15, 16, 17, 18, 19, 20, 21, 22, 23] [0, 1, 0, 4, 15, 0, 32, 0, 128, 511, 0, 1024, 0, 4096, 16383, 0, 32768, 0, 131072, 524287, 1048575, 2097151, 4194303, 8388607] rfl ?_
  refine pass_rule _ (fun w h => load_rule tok h rfl ⟨rfl, rfl⟩) ?_
  refine pass_rule _ (fun w h => load_rule tok h rfl ⟨rfl, rfl⟩) ?_
  refine imp_rule (fun X w h => call_rule h (fun M I _ h => cmp22 a.loan b.loan _ M I h) fun _ w1 _ H1 => imp_done H1 ?_)
  refine pass_rule _ (fun w h => load_rule tok h rfl ⟨rfl, rfl⟩) ?_
  refine pass_rule _ (fun w h => load_rule tok h rfl ⟨rfl, rfl⟩) ?_
  refine imp_rule (fun X w h => call_rule h (fun M I _ h => cmp23 a.day b.day _ M I h) fun _ w1 _ H1 => imp_done H1 ?_)
  refine pass_rule _ (fun w h => load_rule tok h rfl ⟨rfl, rfl⟩) ?_
  refine pass_rule _ (fun w h => load_rule tok h rfl ⟨rfl, rfl⟩) ?_
  refine imp_rule (fun X w h => call_rule h (fun M I _ h => cmp5 a.kind b.kind _ M I h) fun _ w1 _ H1 => imp_done H1 ?_)
  refine pass_rule _ (fun w h => load_rule tok h rfl ⟨rfl, rfl⟩) ?_
  refine pass_rule _ (fun w h => load_rule tok h rfl ⟨rfl, rfl⟩) ?_
  refine imp_rule (fun X w h => call_rule h (fun M I _ h => cmp22 a.seq b.seq _ M I h) fun _ w1 _ H1 => imp_done H1 ?_)
  refine fresh_slice tok [.int .i64 (cmpI a.loan b.loan), .int .i64 (cmpI a.day b.day), .int .i64 (cmpI a.kind b.kind), .int .i64 (cmpI a.seq b.seq)] rfl rfl rfl rfl rfl rfl rfl fun n => ?_
  refine imp_rule (fun X w h => call_rule h (fun M I _ h => or4 (cmpI a.loan b.loan) (cmpI a.day b.day) (cmpI a.kind b.kind) (cmpI a.seq b.seq) n _ M I h) fun _ w1 _ H1 => imp_done H1 ?_)
  refine done_rule fun w3 H3 => ?_
  exact Exists.intro () (And.intro rfl (And.intro trivial H3.dropAll))
theorem account (k : Int) (h0 : 0 ≤ k) (h1 : k ≤ 255) : CB 53 [.int .u8 k] (.string (accName k)) := by
  intro w M I H
  refine Exe.of_ev tok Tryz.call53 Tryz.func53 rfl rfl rfl ?_
  refine slice_as tok H (accL.map Value.string) rfl rfl rfl rfl rfl rfl fun g w1 H1 => ?_
  have e : IntKind.i64.wrap k = k := w64 (by omega) (by omega)
  refine brd (fun h => ?_) (fun h => ?_)
  · refine Exists.intro () (And.intro (congrArg Value.string ?_) (And.intro trivial H1.drop))
    rw [e] at h
    have : accL.length ≤ k.toNat := by show 10 ≤ _; omega
    simp [accName, List.getElem?_eq_none this]
  · rw [e] at h
    refine idx_own tok rfl rfl h0 (by omega) ?_
    have hlt : k.toNat < accL.length := by show _ < 10; omega
    refine load_rule tok H1 (v := .string (accName k)) ?_ ?_
    · show (accL.map Value.string)[0 + k.toNat * 1]? = _
      simp [accName, List.getElem?_eq_getElem hlt]
    · exact Exists.intro () (And.intro rfl (And.intro trivial H1.drop))
theorem legs_get {ls : List Leg} {j : Nat} {x : Leg} (h : ls[j]? = some x) : ldV (tb 135) (legsC ls) (0 + j * 2) = some (legV x) := by
  obtain ⟨hj, _⟩ := List.getElem?_eq_some_iff.1 h
  have hd : ls.drop j = x :: ls.drop (j + 1) := by
    rw [List.drop_eq_getElem_cons hj]
    rw [List.getElem?_eq_getElem hj] at h
    rw [Option.some.inj h]
  show (bif Nat.ble (0 + j * 2 + 2) (legsC ls).length then some (Value.agg (((legsC ls).drop (0 + j * 2)).take 2).toArray) else none) = _
  rw [Nat.zero_add, legsC_drop, hd]
  have : Nat.ble (j * 2 + 2) (legsC ls).length = true := by rw [Nat.ble_eq, legsC_len]; omega
  rw [this]
  rfl
theorem len_ (x : Int) (h0 : 0 ≤ x) (h1 : x ≤ 200) : CI 121 [.int .u64 x] := by
  intro w M I H
  refine Exe.of_ev tok Tryz.call121 Tryz.func121 rfl rfl rfl ?_
  refine call_rule H (fun M I _ h => len64 x h0 h1 _ M I h) fun v w1 _ H1 => ?_
  exact Exists.intro v (And.intro rfl (And.intro trivial H1))
theorem cmpLeg (a b : Leg) : CB 216 [legV a, legV b] (.int .i64 (cmpI a.acct b.acct)) := by
  intro w M I H
  refine Exe.of_ev tok Tryz.call216 Tryz.func216 rfl rfl rfl ?_
  refine box_as H [.int .u8 a.acct, .int .i64 a.amt] rfl fun x w1 H1 => ?_
  refine box_as H1 [.int .u8 b.acct, .int .i64 b.amt] rfl fun y w2 H2 => ?_
  refine load_rule tok H2 rfl ?_
  refine load_rule tok H2 rfl ?_
  refine call_rule H2 (fun M I _ h => cmp5 a.acct b.acct _ M I h) fun _ w3 _ H3 => ?_
  exact Exists.intro () (And.intro rfl (And.intro trivial H3.dropAll))
theorem insSort (g n c : Nat) (hn : n ≤ 1000000) (ls : List Leg) (hl : ls.length = n) (w : World) (M I : BS) (H : Hp ⟨w, M, I⟩ [row 135 2 (.slice (some ⟨g, 0, none⟩) n c) n (legsC ls)] [] w) :
    Ctr Tryz.prog 265 [.slice (some ⟨g, 0, none⟩) n c, .int .i64 0, .int .i64 n, .func (.func 216) #[] #[]] w M I (fun _ : List Leg => .tuple #[]) (fun l => l.Perm ls ∧ srt l) (fun l => [row 135 2 (.slice (some ⟨g, 0, none⟩) n c) n (legsC l)]) (fun _ => []) := by
  refine Exe.of_ev tok Tryz.call265 Tryz.func265 rfl rfl rfl ?_
  refine loop_rule tok (σ := Nat × List Leg) 9007199254737664 (fun s => [(8, .int .i64 s.1)]) (fun s w' => 1 ≤ s.1 ∧ s.1 ≤ 1000001 ∧ s.2.Perm ls ∧ srt (s.2.take s.1) ∧ Hp ⟨w, M, I⟩ [row 135 2 (.slice (some ⟨g, 0, none⟩) n c) n (legsC s.2)] [] w') (fun s => n - s.1) (1, ls) rfl rfl ⟨rfl, trivial⟩ ⟨Nat.le_refl _, by simp, .refl _, ?_, H⟩ ?_
  · cases ls with
    | nil => exact List.Pairwise.nil
    | cons x r => simp [srt]
  rintro ⟨i, l1⟩ j0 w1 ⟨hi, hi2, hp, hs, H1⟩
  simp only at hi hi2 hp hs H1
  refine brd (fun h => ?_) (fun h => ?_)
  · have hlt : i < n := by omega
    have hl1 : l1.length = n := by rw [hp.length_eq, hl]
    obtain ⟨pre, y, rest, rfl, hpre⟩ : ∃ pre y rest, l1 = pre ++ y :: rest ∧ pre.length = i := by
      refine ⟨l1.take i, l1[i], l1.drop (i + 1), ?_, by rw [List.length_take]; omega⟩
      rw [List.getElem_cons_drop, List.take_append_drop]
    rw [← hpre, List.take_left] at hs
    refine loop_rule tok (σ := List Leg × List Leg) 9007199254479360 (fun s => [(9, .int .i64 s.1.length)]) (fun s w' => s.1 ++ s.2 = pre ∧ (∀ z, z ∈ s.2 → y.acct ≤ z.acct) ∧ Hp ⟨w, M, I⟩ [row 135 2 (.slice (some ⟨g, 0, none⟩) n c) n (legsC (s.1 ++ y :: (s.2 ++ rest)))] [] w') (fun s => s.1.length) (pre, []) rfl rfl ⟨?_, trivial⟩ ⟨by simp, by simp, by simpa using H1⟩ ?_
    · show Value.int .i64 _ = _
      rw [hpre]
    rintro ⟨p, s⟩ j1 w2 ⟨e, hz, H2⟩
    simp only at e hz H2
    have hps := congrArg List.length e
    have hll : pre.length + 1 + rest.length = n := by rw [← hl1]; simp; omega
    simp only [List.length_append] at hps
    have fin : ∀ w3, srt (p ++ y :: s) → Hp ⟨w, M, I⟩ [row 135 2 (.slice (some ⟨g, 0, none⟩) n c) n (legsC (p ++ y :: (s ++ rest)))] [] w3 → (p ++ y :: (s ++ rest)).Perm ls ∧ srt ((p ++ y :: (s ++ rest)).take (i + 1)) := fun w3 h1 _ => by
      refine ⟨?_, ?_⟩
      · refine List.Perm.trans ?_ hp
        have e1 : pre ++ y :: rest = p ++ (s ++ y :: rest) := by rw [← e]; simp
        have e2 : p ++ y :: (s ++ rest) = p ++ (y :: s ++ rest) := by simp
        rw [e1, e2]
        refine List.Perm.append_left p ?_
        exact (List.perm_middle (a := y) (l₁ := s) (l₂ := rest)).symm
      · have e2 : p ++ y :: (s ++ rest) = (p ++ y :: s) ++ rest := by simp
        rw [e2, List.take_left' (by simp <;> omega)]
        exact h1
    have hs' : srt (p ++ s) := by rw [e]; exact hs
    obtain ⟨hsp, hss, hsc⟩ := List.pairwise_append.1 hs'
    rcases List.eq_nil_or_concat p with hpe | ⟨p', x, hpe⟩
    · subst hpe
      refine draw_rule (A := []) tok tdr H2 [0, 1, 2, 3, 4, 5, 6, 7, 8, 9, 10, 11, 12, 13, 14, 15, 16] [0, 0, 3, 7, 15, 15, 15, 111, 239, 15, 15, 1039, 3599, 7695, 16383, 32767, 65535] rfl ?_
      refine done_rule fun w3 H3 => ?_
      have hf := fin w3 (List.pairwise_cons.2 ⟨fun z hz' => hz z hz', hss⟩) H3
      refine Exists.intro (i + 1, [] ++ y :: (s ++ rest)) (And.intro ⟨?_, trivial⟩ (And.intro ?_ ⟨by simp only; omega, by simp only; omega, hf.1, hf.2, H3⟩))
      · show Value.int .i64 (IntKind.i64.wrap (i + 1)) = _
        rw [w64 (by omega) (by omega)]; rfl
      · simp only; omega
    · rw [List.concat_eq_append] at hpe
      subst hpe
      simp only [List.length_append, List.length_cons, List.length_nil] at hps
      have hy : (p' ++ [x] ++ y :: (s ++ rest))[(((p' ++ [x]).length : Nat) : Int).toNat]? = some y := by simp
      have hx : (p' ++ [x] ++ y :: (s ++ rest))[(IntKind.i64.wrap ((((p' ++ [x]).length : Nat) : Int) - 1)).toNat]? = some x := by
        rw [w64 (by simp <;> omega) (by simp <;> omega)]
        simp
      have i1 : (0 : Int) ≤ (((p' ++ [x]).length : Nat) : Int) := by omega
      have i2 : (((p' ++ [x]).length : Nat) : Int) < n := by simp <;> omega
      have i3 : (0 : Int) ≤ IntKind.i64.wrap ((((p' ++ [x]).length : Nat) : Int) - 1) := by rw [w64 (by simp <;> omega) (by simp <;> omega)]; simp
      have i4 : IntKind.i64.wrap ((((p' ++ [x]).length : Nat) : Int) - 1) < n := by rw [w64 (by simp <;> omega) (by simp <;> omega)]; simp <;> omega
      refine draw_rule (A := []) tok tdr H2 [0, 1, 2, 3, 4, 5, 6, 7, 8, 9, 10, 11, 12, 13, 14, 15, 16] [0, 0, 3, 7, 15, 15, 15, 111, 239, 15, 15, 1039, 3599, 7695, 16383, 32767, 65535] rfl ?_
      refine brd (fun q => ?_) (fun q => ?_)
      · refine pass_rule _ (fun w h => idx_own tok rfl rfl i1 i2 ⟨rfl, rfl⟩) ?_
        refine pass_rule _ (fun w h => row_ld tok h (legV y) (legs_get hy) ⟨rfl, rfl⟩) ?_
        refine pass_rule _ (fun w h => idx_own tok rfl rfl i3 i4 ⟨rfl, rfl⟩) ?_
        refine pass_rule _ (fun w h => row_ld tok h (legV x) (legs_get hx) ⟨rfl, rfl⟩) ?_
        refine imp_rule (fun X w h => call_rule h (fun M I _ h => cmpLeg y x _ M I h) fun _ w1 _ H1 => imp_done H1 ?_)
        refine done_rule fun w3 H3 => ?_
        refine brd (fun q2 => ?_) (fun q2 => ?_)
        · have hlt : y.acct < x.acct := by
            unfold cmpI at q2
            split at q2
            · assumption
            · split at q2 <;> simp at q2
          have hln : (legsC (p' ++ [x] ++ y :: (s ++ rest))).length = n * 2 := by rw [legsC_len]; simp; omega
          have hb1 : 0 + (((p' ++ [x]).length : Nat) : Int).toNat * 2 + 2 ≤ (legsC (p' ++ [x] ++ y :: (s ++ rest))).length := by rw [hln]; omega
          have hb2 : 0 + (IntKind.i64.wrap ((((p' ++ [x]).length : Nat) : Int) - 1)).toNat * 2 + 2 ≤ (setL (legsC (p' ++ [x] ++ y :: (s ++ rest))) (0 + (((p' ++ [x]).length : Nat) : Int).toNat * 2) [.int .u8 x.acct, .int .i64 x.amt]).length := by rw [length_setL, hln]; omega
          refine draw_rule (A := [row 135 2 (.slice (some ⟨g, 0, none⟩) n c) n (legsC (p' ++ [x] ++ y :: (s ++ rest)))]) tok tdr H3 [0, 1, 5, 6, 7, 8, 9, 10, 11, 12, 13, 14, 15, 2, 3, 4, 16, 17] [0, 0, 0, 0, 8, 0, 0, 64, 224, 480, 0, 0, 3072, 7168, 16355, 32739, 65535, 131071] rfl ?_
          refine pass_rule _ (fun w h => idx_own tok rfl rfl i3 i4 ⟨rfl, rfl⟩) ?_
          refine pass_last _ rfl (fun X w h => row_ld tok h (legV x) (legs_get hx) ⟨rfl, rfl⟩) ?_
          refine pass_rule _ (fun w h => idx_own tok rfl rfl i1 i2 ⟨rfl, rfl⟩) ?_
          refine pass_last _ rfl (fun X w h => row_ld tok h (legV y) (legs_get hy) ⟨rfl, rfl⟩) ?_
          refine pass_rule _ (fun w h => idx_own tok rfl rfl i1 i2 ⟨rfl, rfl⟩) ?_
          refine imp_rule (fun X w h => row_st tok h rfl rfl hb1 rfl fun w' H' => imp_done H' ?_)
          refine pass_rule _ (fun w h => idx_own tok rfl rfl i3 i4 ⟨rfl, rfl⟩) ?_
          refine imp_rule (fun X w h => row_st tok h rfl rfl hb2 rfl fun w' H' => imp_done H' ?_)
          refine done_rule fun w4 H4 => ?_
          refine Exists.intro (p', x :: s) (And.intro ⟨?_, trivial⟩ (And.intro ?_ ⟨?_, ?_, ?_⟩))
          · show Value.int .i64 (IntKind.i64.wrap _) = _
            rw [w64 (by simp <;> omega) (by simp <;> omega)]; simp
          · simp
          · simpa using e
          · intro z hz'
            rcases List.mem_cons.1 hz' with rfl | hz'
            · exact Int.le_of_lt hlt
            · exact hz z hz'
          · have ee : setL (setL (legsC (p' ++ [x] ++ y :: (s ++ rest))) (0 + (((p' ++ [x]).length : Nat) : Int).toNat * 2) [.int .u8 x.acct, .int .i64 x.amt]) (0 + (IntKind.i64.wrap ((((p' ++ [x]).length : Nat) : Int) - 1)).toNat * 2) [.int .u8 y.acct, .int .i64 y.amt] = legsC (p' ++ y :: (x :: s ++ rest)) := by
              rw [legs_set, legs_set, w64 (by simp <;> omega) (by simp <;> omega)]
              congr 1
              simp
            rw [← ee]
            exact H4
        · have hle : x.acct ≤ y.acct := by
            unfold cmpI at q2
            split at q2
            · simp at q2
            · omega
          have hf := fin w3 (by
            refine List.pairwise_append.2 ⟨hsp, List.pairwise_cons.2 ⟨fun z hz' => hz z hz', hss⟩, fun u hu v hv => ?_⟩
            rcases List.mem_cons.1 hv with rfl | hv
            · rcases List.mem_append.1 hu with hu | hu
              · exact Int.le_trans ((List.pairwise_append.1 hsp).2.2 u hu x (by simp)) hle
              · simp only [List.mem_singleton] at hu; subst hu; exact hle
            · exact hsc u hu v hv) H3
          refine Exists.intro (i + 1, p' ++ [x] ++ y :: (s ++ rest)) (And.intro ⟨?_, trivial⟩ (And.intro ?_ ⟨by simp only; omega, by simp only; omega, hf.1, hf.2, H3⟩))
          · show Value.int .i64 (IntKind.i64.wrap (i + 1)) = _
            rw [w64 (by omega) (by omega)]; rfl
          · simp only; omega
      · exact absurd q (by simp <;> omega)
  · exact Exists.intro l1 (And.intro rfl (And.intro ⟨hp, by rwa [List.take_of_length_le (by have := hp.length_eq; omega)] at hs⟩ H1))
theorem pdq (g n c : Nat) (hn : n ≤ 12) (z : Int) (ls : List Leg) (hl : ls.length = n) (w : World) (M I : BS) (H : Hp ⟨w, M, I⟩ [row 135 2 (.slice (some ⟨g, 0, none⟩) n c) n (legsC ls)] [] w) :
    Ctr Tryz.prog 245 [.slice (some ⟨g, 0, none⟩) n c, .int .i64 0, .int .i64 n, .int .i64 z, .func (.func 216) #[] #[]] w M I (fun _ : List Leg => .tuple #[]) (fun l => l.Perm ls ∧ srt l) (fun l => [row 135 2 (.slice (some ⟨g, 0, none⟩) n c) n (legsC l)]) (fun _ => []) := by
  refine Exe.of_ev tok Tryz.call245 Tryz.func245 rfl rfl rfl ?_
  refine loop_rule tok (σ := Unit) 356811923176489970264571492362373784095685646 (fun _ => [(1, .int .i64 0), (2, .int .i64 n)]) (fun _ w' => Hp ⟨w, M, I⟩ [row 135 2 (.slice (some ⟨g, 0, none⟩) n c) n (legsC ls)] [] w') (fun _ => 0) () rfl rfl ⟨rfl, rfl, trivial⟩ H ?_
  rintro ⟨⟩ j w1 H1
  have e : IntKind.i64.wrap ((n : Int) - 0) = n := by rw [Int.sub_zero]; exact w64 (by omega) (by omega)
  refine brd (fun h => ?_) (fun h => ?_)
  · refine call_rule H1 (fun M I _ h => insSort g n c (by omega) ls hl _ M I h) fun l w2 hφ H2 => ?_
    exact Exists.intro l (And.intro rfl (And.intro hφ H2))
  · rw [e] at h; omega
theorem sortFew (g n c : Nat) (hn : n ≤ 12) (ls : List Leg) (hl : ls.length = n) (w : World) (M I : BS) (H : Hp ⟨w, M, I⟩ [row 135 2 (.slice (some ⟨g, 0, none⟩) n c) n (legsC ls)] [] w) :
    Ctr Tryz.prog 215 [.slice (some ⟨g, 0, none⟩) n c, .func (.func 216) #[] #[]] w M I (fun _ : List Leg => .tuple #[]) (fun l => l.Perm ls ∧ srt l) (fun l => [row 135 2 (.slice (some ⟨g, 0, none⟩) n c) n (legsC l)]) (fun _ => []) := by
  refine Exe.of_ev tok Tryz.call215 Tryz.func215 rfl rfl rfl ?_
  have e : IntKind.u64.wrap (n : Int) = n := wrap_id ⟨by simp [kLo], by simp only [kHi]; omega⟩
  refine call_rule H (fun M I _ h => (by rw [e]; exact len_ n (by omega) (by omega) _ M I h)) fun z w1 _ H1 => ?_
  refine call_rule H1 (fun M I _ h => pdq g n c hn z ls hl _ M I h) fun l w2 hφ H2 => ?_
  exact Exists.intro l (And.intro rfl (And.intro hφ H2))
theorem insNil : CB 265 [.slice none 0 0, .int .i64 0, .int .i64 0, .func (.func 216) #[] #[]] (.tuple #[]) := by
  intro w M I H
  refine Exe.of_ev tok Tryz.call265 Tryz.func265 rfl rfl rfl ?_
  refine loop_rule tok (σ := Unit) 9007199254737664 (fun s => [(8, .int .i64 1)]) (fun _ w' => Hp ⟨w, M, I⟩ [] [] w') (fun _ => 0) () rfl rfl ⟨rfl, trivial⟩ H ?_
  rintro ⟨⟩ j0 w1 H1
  exact Exists.intro () (And.intro rfl (And.intro trivial H1))
theorem pdqNil (z : Int) : CB 245 [.slice none 0 0, .int .i64 0, .int .i64 0, .int .i64 z, .func (.func 216) #[] #[]] (.tuple #[]) := by
  intro w M I H
  refine Exe.of_ev tok Tryz.call245 Tryz.func245 rfl rfl rfl ?_
  refine loop_rule tok (σ := Unit) 356811923176489970264571492362373784095685646 (fun _ => [(1, .int .i64 0), (2, .int .i64 0)]) (fun _ w' => Hp ⟨w, M, I⟩ [] [] w') (fun _ => 0) () rfl rfl ⟨rfl, rfl, trivial⟩ H ?_
  rintro ⟨⟩ j w1 H1
  refine call_rule H1 (fun M I _ h => insNil _ M I h) fun l w2 hφ H2 => ?_
  exact Exists.intro () (And.intro rfl (And.intro trivial H2))
theorem sortNil : CB 215 [.slice none 0 0, .func (.func 216) #[] #[]] (.tuple #[]) := by
  intro w M I H
  refine Exe.of_ev tok Tryz.call215 Tryz.func215 rfl rfl rfl ?_
  refine call_rule H (fun M I _ h => len_ 0 (by omega) (by omega) _ M I h) fun z w1 _ H1 => ?_
  refine call_rule H1 (fun M I _ h => pdqNil z _ M I h) fun l w2 hφ H2 => ?_
  exact Exists.intro () (And.intro rfl (And.intro trivial H2))
theorem add (a b : Int) (ha : inK .i64 a) (hb : inK .i64 b) : CB 52 [.int .i64 a, .int .i64 b] (addV a b) := by
  intro w M I H
  obtain ⟨a1, a2⟩ := ha
  obtain ⟨b1, b2⟩ := hb
  simp only [kLo, kHi] at a1 a2 b1 b2
  refine Exe.of_ev tok Tryz.call52 Tryz.func52 rfl rfl rfl ?_
  rcases (show 9223372036854775807 < a + b ∨ a + b < -9223372036854775808 ∨ (-9223372036854775808 ≤ a + b ∧ a + b ≤ 9223372036854775807) by omega) with h | h | ⟨h, h'⟩
  · have e := wrap_hi h (by omega)
    have en : in64 (a + b) = false := by unfold in64; rw [decide_eq_false (show ¬ a + b ≤ 9223372036854775807 by omega), Bool.and_false]
    refine brd (fun q => ?_) (fun q => ?_)
    · refine brd (fun q2 => ?_) (fun q2 => ?_)
      · exact Exists.intro () (And.intro (addV_no en) (And.intro trivial H))
      · exact absurd q2 (by rw [e]; omega)
    · exact absurd q (by omega)
  · have e := wrap_lo h (by omega)
    have en : in64 (a + b) = false := by unfold in64; rw [decide_eq_false (show ¬ -9223372036854775808 ≤ a + b by omega), Bool.false_and]
    refine brd (fun q => ?_) (fun q => ?_)
    · exact absurd q (show ¬ 0 < b by omega)
    · refine brd (fun q2 => ?_) (fun q2 => ?_)
      · refine brd (fun q3 => ?_) (fun q3 => ?_)
        · exact Exists.intro () (And.intro (addV_no en) (And.intro trivial H))
        · exact absurd (show a < IntKind.i64.wrap (a + b) by rw [e]; omega) q3
      · exact absurd (show b < 0 by omega) q2
  · have e : IntKind.i64.wrap (a + b) = a + b := w64 (by omega) (by omega)
    have en : in64 (a + b) = true := by unfold in64; rw [decide_eq_true h, decide_eq_true h']; rfl
    have fin : Value.tuple #[.int .i64 (IntKind.i64.wrap (a + b)), .nilIface] = addV a b := by unfold addV; rw [en, e]; rfl
    refine brd (fun q => ?_) (fun q => ?_)
    · refine brd (fun q2 => ?_) (fun q2 => ?_)
      · exact absurd q2 (show ¬ IntKind.i64.wrap (a + b) < a by rw [e]; omega)
      · refine brd (fun q3 => ?_) (fun q3 => ?_)
        · exact absurd q3 (show ¬ b < 0 by omega)
        · exact Exists.intro () (And.intro fin (And.intro trivial H))
    · refine brd (fun q2 => ?_) (fun q2 => ?_)
      · refine brd (fun q3 => ?_) (fun q3 => ?_)
        · exact absurd q3 (show ¬ a < IntKind.i64.wrap (a + b) by rw [e]; omega)
        · exact Exists.intro () (And.intro fin (And.intro trivial H))
      · exact Exists.intro () (And.intro fin (And.intro trivial H))
theorem make (k : Key) (A : Option Addr) (n c : Nat) (legs : List Leg) (hn : legs.length ≤ 12) (w : World) (M I : BS) (hM : ∀ b, ¬ M b) (H : Hp ⟨w, M, I⟩ [] [Sl legR (.slice A n c) legs] w) :
    Ctr Tryz.prog 160 [keyV k, .slice A n c] w M I (fun a : SV × List Leg => .agg #[.int .u32 k.loan, .int .i32 k.day, .int .u8 k.kind, .int .u32 k.seq, .slice a.1.A a.1.n a.1.c]) (fun a => made legs a.2) (fun _ => []) (fun a => [Sl legR (.slice a.1.A a.1.n a.1.c) a.2]) := by
  obtain ⟨hnl, _, _⟩ := H.sll (A := A) (n := n) (c := c)
  refine Exe.of_ev tok Tryz.call160 Tryz.func160 rfl rfl rfl ?_
  refine box_as H (keyC k) rfl fun x w1 H1 => ?_
  refine alloc_as tok H1 zeroC rfl rfl rfl fun r w2 H2 => ?_
  refine makeMap_rule H2 (fun n : Int => Value.int .u8 n) (fun n : Int => Value.int .i64 n) fun mm w3 H3 => ?_
  refine loop_rule tok (σ := Nat × List (Int × Int)) 549755749248 (fun s => [(16, .int .i64 s.1)])
    (fun s w' => s.1 ≤ legs.length ∧ s.2.length ≤ s.1 ∧ (∀ p, p ∈ s.2 → inK .u8 p.1 ∧ inK .i64 p.2) ∧ sumGo legs [] = sumGo (legs.drop s.1) s.2 ∧
      Hp ⟨w, M, I⟩ [mapO mm (fun n : Int => Value.int .u8 n) (fun n : Int => Value.int .i64 n) s.2, blk r zeroC 71, blk x (keyC k) 68] [Sl legR (.slice A n c) legs] w') (fun s => legs.length - s.1) (0, []) rfl rfl ⟨rfl, trivial⟩
    ⟨Nat.zero_le _, Nat.le_refl _, by simp, rfl, H3⟩ ?_
  rintro ⟨i, m⟩ j w4 ⟨hi, hml, hmr, hsum, H4⟩
  simp only at hi hml hmr hsum H4
  refine brd (fun h5 => ?_) (fun h5 => ?_)
  · refine idx_rule tok H4 rfl rfl rfl (by omega) h5 fun eb eo y hy H5 => ?_
    refine ldp_rule tok H5 rfl rfl rfl fun _ hok H6 => ?_
    refine alloc_rule tok H6 rfl rfl fun lb w5 H7 => ?_
    refine store_as tok H7 [.int .u8 y.acct, .int .i64 y.amt] rfl rfl rfl rfl rfl fun w6 H8 => ?_
    refine load_rule tok H8 rfl ?_
    have hy' : legs[i]? = some y := by simpa using hy
    have hd : legs.drop i = y :: legs.drop (i + 1) := by
      obtain ⟨hj, _⟩ := List.getElem?_eq_some_iff.1 hy'
      rw [List.drop_eq_getElem_cons hj]
      rw [List.getElem?_eq_getElem hj] at hy'
      rw [Option.some.inj hy']
    have hz : inK .i64 ((lk y.acct m).getD 0) := by
      cases hl : lk y.acct m with
      | none => exact ⟨by simp [kLo], by simp [kHi]⟩
      | some v => exact (hmr _ (lk_mem hl)).2
    refine lookup_rule tok H8 (k := y.acct) (v := .int .i64 ((lk y.acct m).getD 0)) rfl rfl rfl (int_keys tok rfl) rfl ?_ ?_
    · cases lk y.acct m <;> rfl
    refine load_rule tok H8 rfl ?_
    rcases (show in64 ((lk y.acct m).getD 0 + y.amt) = true ∨ in64 ((lk y.acct m).getD 0 + y.amt) = false by cases in64 ((lk y.acct m).getD 0 + y.amt) <;> simp) with en | en
    · refine call_rule H8 (fun M I _ h => (addV_ok en).symm ▸ add _ _ hz hok.2 _ M I h) fun _ w7 _ H9 => ?_
      refine load_rule tok H9 rfl ?_
      refine mapUpd_rule tok H9 (k := y.acct) (v := (lk y.acct m).getD 0 + y.amt) rfl (int_keys tok rfl) rfl rfl fun w8 H10 => ?_
      refine Exists.intro (i + 1, putL y.acct ((lk y.acct m).getD 0 + y.amt) m) (And.intro ⟨?_, trivial⟩ (And.intro ?_ ⟨?_, ?_, ?_, ?_, H10.keep⟩))
      · show Value.int .i64 (IntKind.i64.wrap (i + 1)) = _
        rw [w64 (by omega) (by omega)]; rfl
      · simp only; omega
      · simp only; omega
      · have := len_putL (k := y.acct) (v := (lk y.acct m).getD 0 + y.amt) (l := m); simp only; omega
      · intro p hp
        rcases mem_putL hp with rfl | hp
        · simp only [in64, Bool.and_eq_true, decide_eq_true_eq] at en
          exact ⟨hok.1, by simp only [inK, kLo, kHi]; exact en⟩
        · exact hmr p hp
      · rw [hsum, hd, sumGo, if_pos en]
    · refine call_rule H8 (fun M I _ h => (addV_no en).symm ▸ add _ _ hz hok.2 _ M I h) fun _ w7 _ H9 => ?_
      refine load_rule tok H9 (v := keyV k) rfl ?_
      refine store_as tok H9 (entC k none 0 0) rfl rfl rfl rfl rfl fun w8 H10 => ?_
      refine Exists.intro ⟨r, 0, none⟩ (Exists.intro (.agg #[.int .u32 k.loan, .int .i32 k.day, .int .u8 k.kind, .int .u32 k.seq, .slice none 0 0]) (And.intro rfl (And.intro (Hp.ld (T := tb) tok H10 rfl) ?_)))
      refine Exists.intro (⟨none, 0, 0⟩, []) (And.intro rfl (And.intro ?_ (Hp.keep (Hp.slNil legR H10))))
      unfold made
      rw [hsum, hd, sumGo, if_neg (by rw [en]; simp)]
  · have hii : i = legs.length := by omega
    have hsm : sumGo legs [] = some m := by rw [hsum, hii, List.drop_length, sumGo]
    refine load_rule tok H4 (v := keyV k) rfl ?_
    refine alloc_as tok H4 zeroC rfl rfl rfl fun o w5 H5 => ?_
    refine store_as tok H5 (entC k none 0 0) rfl rfl rfl rfl rfl fun w6 H6 => ?_
    refine range_rule tok H6 rfl fun it w7 H7 => ?_
    have H7' : Hp ⟨w, M, I⟩ [row 135 2 (.slice none 0 0) 0 [], rngO mm it (fun n : Int => Value.int .u8 n) (fun n : Int => Value.int .i64 n) m m none, blk o (entC k none 0 0) 71, blk r zeroC 71, blk x (keyC k) 68] [] w7 := (Hp.nil H7 135 2).keep
    refine loop_rule tok (σ := (List Leg × List (Int × Int)) × Option (Int × Int) × SV) 72048797944911872 (fun s => [])
      (fun s w' => (s.1.1 ++ s.1.2.map pairL).Perm (m.map pairL) ∧ s.1.1.length = s.2.2.n ∧ (s.1.1 = [] → s.2.2.A = none ∧ s.2.2.c = 0) ∧
        Hp ⟨w, M, I⟩ [row 135 2 (.slice s.2.2.A s.2.2.n s.2.2.c) s.2.2.n (legsC s.1.1), rngO mm it (fun n : Int => Value.int .u8 n) (fun n : Int => Value.int .i64 n) m s.1.2 s.2.1, blk o (entC k s.2.2.A s.2.2.n s.2.2.c) 71, blk r zeroC 71, blk x (keyC k) 68] [] w') (fun s => s.1.2.length) (([], m), none, ⟨none, 0, 0⟩) rfl rfl trivial
      ⟨by simp, rfl, fun _ => ⟨rfl, rfl⟩, H7'⟩ ?_
    rintro ⟨⟨dn, lf⟩, cur, A1, n1, c1⟩ j2 w8 ⟨hpm, hdl, hnil, H8⟩
    simp only at hpm hdl hnil H8
    refine next_rule H8 (fun hl => ?_) fun a p b w9 hl H9 => ?_
    · subst hl
      simp only [List.map_nil, List.append_nil] at hpm
      refine load_rule tok H8 (v := .slice A1 n1 c1) rfl ?_
      have hl12 : dn.length ≤ 12 := by have := hpm.length_eq; simp at this; omega
      rcases (show dn = [] ∨ dn ≠ [] by cases dn <;> simp) with hd0 | hd0
      · obtain ⟨rfl, rfl⟩ := hnil hd0
        subst hd0
        obtain rfl : 0 = n1 := hdl
        refine call_rule H8 (fun M I _ h => sortNil _ M I h) fun _ w9 _ H9 => ?_
        refine load_rule tok H9 (v := .agg #[.int .u32 k.loan, .int .i32 k.day, .int .u8 k.kind, .int .u32 k.seq, .slice none 0 0]) rfl ?_
        refine store_as tok H9 (entC k none 0 0) rfl rfl rfl rfl rfl fun w10 H10 => ?_
        refine Exists.intro ⟨r, 0, none⟩ (Exists.intro (.agg #[.int .u32 k.loan, .int .i32 k.day, .int .u8 k.kind, .int .u32 k.seq, .slice none 0 0]) (And.intro rfl (And.intro (Hp.ld (T := tb) tok H10 rfl) ?_)))
        refine Exists.intro (⟨none, 0, 0⟩, []) (And.intro rfl (And.intro ?_ (Hp.keep (Hp.slNil legR H10))))
        unfold made
        rw [hsm]
        exact ⟨hpm, List.Pairwise.nil⟩
      · obtain ⟨fa, ha⟩ := H8.own (A := row 135 2 (.slice A1 n1 c1) n1 (legsC dn))
        obtain ⟨A1', c1', e1, _, _, hb⟩ := row_shape ha
        have hn0 : n1 ≠ 0 := by rw [← hdl]; exact fun h => hd0 (List.length_eq_zero_iff.1 h)
        obtain ⟨b1, rfl⟩ := hb hn0
        injection e1 with e1 e2 e3
        subst e1
        refine call_rule H8 (fun M I _ h => sortFew b1 n1 c1 (by omega) dn hdl _ M I h) fun l w9 hφ H9 => ?_
        obtain ⟨hlp, hls⟩ := hφ
        refine load_rule tok H9 (v := .agg #[.int .u32 k.loan, .int .i32 k.day, .int .u8 k.kind, .int .u32 k.seq, .slice (some ⟨b1, 0, none⟩) n1 c1]) rfl ?_
        refine store_as tok H9 (entC k (some ⟨b1, 0, none⟩) n1 c1) rfl rfl rfl rfl rfl fun w10 H10 => ?_
        refine Exists.intro ⟨r, 0, none⟩ (Exists.intro (.agg #[.int .u32 k.loan, .int .i32 k.day, .int .u8 k.kind, .int .u32 k.seq, .slice (some ⟨b1, 0, none⟩) n1 c1]) (And.intro rfl (And.intro (Hp.ld (T := tb) tok H10 rfl) ?_)))
        have hcl : ∀ i x, l[i]? = some x → ∃ p : Unit, (inK .u8 x.acct ∧ inK .i64 x.amt) ∧ ((legsC l).drop (i * 2)).take 2 = [.int .u8 x.acct, .int .i64 x.amt] ∧ ([] : List Fact) = [] := fun i x hx => by
          obtain ⟨hj, _⟩ := List.getElem?_eq_some_iff.1 hx
          have hm : x ∈ l := List.mem_of_getElem? hx
          obtain ⟨q, hq, rfl⟩ := List.mem_map.1 ((hlp.trans hpm).mem_iff.1 hm)
          refine ⟨(), hmr q hq, ?_, rfl⟩
          rw [legsC_drop, List.drop_eq_getElem_cons hj]
          rw [List.getElem?_eq_getElem hj] at hx
          rw [Option.some.inj hx]
          rfl
        have H11 := (H10.addCl legR (cs := legsC l) (xs := l) (legsC_len l) hcl).frzRow (v := .slice (some ⟨b1, 0, none⟩) n1 c1) (xs := l) legR hM rfl (by decide)
        refine Exists.intro (⟨some ⟨b1, 0, none⟩, n1, c1⟩, l) (And.intro rfl (And.intro ?_ (Hp.keep H11)))
        unfold made
        rw [hsm]
        exact ⟨hlp.trans hpm, hls⟩
    · refine entry_rule H9 ?_
      refine load_rule tok H9 (v := .slice A1 n1 c1) rfl ?_
      refine slice_as tok H9 [.int .u8 p.1, .int .i64 p.2] rfl rfl rfl rfl rfl rfl fun g w10 H10 => ?_
      have hl12 : m.length ≤ 12 := by omega
      have hn12 : n1 + 1 ≤ 12 := by
        have := hpm.length_eq
        simp only [List.length_append, List.length_map, hl, List.length_cons] at this
        omega
      refine append_rule (v := .slice A1 n1 c1) (b := g) (m := 1) (c := 1) tok H10 rfl rfl rfl rfl rfl rfl rfl rfl ?_ (by omega) fun A2 c2 w11 H11 => ?_
      · show (n1 + 1) * 16 ≤ _
        omega
      refine store_as tok H11 (entC k A2 (n1 + 1) c2) rfl rfl rfl rfl rfl fun w12 H12 => ?_
      refine Exists.intro ((dn ++ [pairL p], a ++ b), some p, ⟨A2, n1 + 1, c2⟩) (And.intro trivial (And.intro ?_ ⟨?_, ?_, ?_, ?_⟩))
      · simp only [hl, List.length_append, List.length_cons]; omega
      · refine List.Perm.trans ?_ hpm
        simp only [hl, List.map_append, List.map_cons, List.append_assoc, List.cons_append, List.nil_append]
        refine List.Perm.append_left dn ?_
        exact List.perm_middle.symm
      · simp only [List.length_append, List.length_cons, List.length_nil, hdl]
      · intro h; simp at h
      · have e : legsC (dn ++ [pairL p]) = legsC dn ++ [.int .u8 p.1, .int .i64 p.2] := by rw [legsC_app]; rfl
        simp only [e]
        exact H12.keep
theorem right (k : Key) (hk : inK .u8 k.kind) (A : Option Addr) (n c : Nat) (ls : List Leg) (w : World) (M I : BS) (H : Hp ⟨w, M, I⟩ [] [Sl legR (.slice A n c) ls] w) :
    Ctr Tryz.prog 20 [.agg #[.int .u32 k.loan, .int .i32 k.day, .int .u8 k.kind, .int .u32 k.seq, .slice A n c]] w M I (fun _ : Unit => .bool (rightB k ls)) (fun _ => True) (fun _ => []) (fun _ => []) := by
  obtain ⟨hn, hc, hc2⟩ := H.sll (A := A) (n := n) (c := c)
  refine Exe.of_ev tok Tryz.call20 Tryz.func20 rfl rfl rfl ?_
  refine box_as H (entC k A n c) rfl fun b w1 H1 => ?_
  refine load_rule tok H1 rfl ?_
  refine call_rule H1 (fun M I _ h => kind k.kind hk.1 hk.2 _ M I h) fun _ w2 _ H2 => ?_
  refine br (fun h => ?_) (fun h => ?_)
  · have h : noB (kindName k.kind) = true := h
    refine Exists.intro () (And.intro (congrArg Value.bool ?_) (And.intro trivial (Hp.keep H2)))
    unfold rightB; rw [h]; rfl
  have h : noB (kindName k.kind) = false := h
  refine load_rule tok H2 rfl ?_
  refine call_rule H2 (fun M I _ h => dayRight k.day _ M I h) fun _ w3 _ H3 => ?_
  refine br (fun h2 => ?_) (fun h2 => ?_)
  · refine Exists.intro () (And.intro (congrArg Value.bool ?_) (And.intro trivial (Hp.keep H3)))
    unfold rightB; rw [h, h2]; rfl
  refine load_rule tok H3 rfl ?_
  refine br (fun h3 => ?_) (fun h3 => ?_)
  · have h3 : ((ls.length : Int) == 0) = true := by rw [← hn]; exact h3
    refine Exists.intro () (And.intro (congrArg Value.bool ?_) (And.intro trivial (Hp.keep H3)))
    unfold rightB; rw [h, h2, h3]; rfl
  have h3 : ((ls.length : Int) == 0) = false := by rw [← hn]; exact h3
  refine load_rule tok H3 rfl ?_
  refine brd (fun h4 => ?_) (fun h4 => ?_)
  · have h4 : decide (8 < (ls.length : Int)) = true := by rw [← hn]; exact decide_eq_true h4
    refine Exists.intro () (And.intro (congrArg Value.bool ?_) (And.intro trivial (Hp.keep H3)))
    unfold rightB; rw [h, h2, h3, h4]; rfl
  have h4 : decide (8 < (ls.length : Int)) = false := by rw [← hn]; exact decide_eq_false h4
  have hR : rightB k ls = rightGo 0 0 ls := by unfold rightB; rw [h, h2, h3, h4]; rfl
  rw [hR]
  refine load_rule tok H3 rfl ?_
  refine loop_rule tok (σ := Nat × Int × Int) 9223372002495037660 (fun s => [(3, .int .i64 s.2.1), (4, .int .u8 s.2.2), (35, .int .i64 s.1)])
    (fun s w' => s.1 ≤ ls.length ∧ inK .i64 s.2.1 ∧ inK .u8 s.2.2 ∧ rightGo 0 0 ls = rightGo s.2.1 s.2.2 (ls.drop s.1) ∧ Hp ⟨w, M, I⟩ [blk b (entC k A n c) 71] [Sl legR (.slice A n c) ls] w') (fun s => ls.length - s.1) (0, 0, 0) rfl rfl ⟨rfl, rfl, rfl, trivial⟩ ?_ ?_
  · exact ⟨Nat.zero_le _, ⟨by simp [kLo], by simp [kHi]⟩, ⟨by simp [kLo], by simp [kHi]⟩, rfl, H3⟩
  rintro ⟨i, s, last⟩ j w4 ⟨hi, hs, hl, hg, H4⟩
  simp only at hi hs hl hg H4
  refine brd (fun h5 => ?_) (fun h5 => ?_)
  · refine idx_rule tok H4 rfl rfl rfl (by omega) h5 fun eb eo x hx H5 => ?_
    refine ldp_rule tok H5 rfl rfl rfl fun _ hok H6 => ?_
    refine alloc_rule tok H6 rfl rfl fun lb w5 H7 => ?_
    refine store_as tok H7 [.int .u8 x.acct, .int .i64 x.amt] rfl rfl rfl rfl rfl fun w6 H8 => ?_
    refine load_rule tok H8 rfl ?_
    have hx' : ls[i]? = some x := by simpa using hx
    have hd : ls.drop i = x :: ls.drop (i + 1) := by
      obtain ⟨hj, _⟩ := List.getElem?_eq_some_iff.1 hx'
      rw [List.drop_eq_getElem_cons hj]
      rw [List.getElem?_eq_getElem hj] at hx'
      rw [Option.some.inj hx']
    rcases (show in64 (s + x.amt) = true ∨ in64 (s + x.amt) = false by cases in64 (s + x.amt) <;> simp) with en | en
    · refine call_rule H8 (fun M I _ h => (addV_ok en).symm ▸ add _ _ hs hok.2 _ M I h) fun _ w7 _ H9 => ?_
      refine load_rule tok H9 rfl ?_
      refine brd (fun h6 => ?_) (fun h6 => ?_)
      · refine Exists.intro () (And.intro (congrArg Value.bool ?_) (And.intro trivial (Hp.keep H9)))
        rw [hg, hd, rightGo, en, decide_eq_true h6]; rfl
      · refine load_rule tok H9 rfl ?_
        refine call_rule H9 (fun M I _ h => account x.acct hok.1.1 hok.1.2 _ M I h) fun _ w8 _ H10 => ?_
        refine br (fun h7 => ?_) (fun h7 => ?_)
        · have h7 : noB (accName x.acct) = true := h7
          refine Exists.intro () (And.intro (congrArg Value.bool ?_) (And.intro trivial (Hp.keep H10)))
          rw [hg, hd, rightGo, en, decide_eq_false h6, h7]; rfl
        · have h7 : noB (accName x.acct) = false := h7
          refine load_rule tok H10 rfl ?_
          have en' := en
          simp only [in64, Bool.and_eq_true, decide_eq_true_eq] at en'
          refine Exists.intro (i + 1, s + x.amt, x.acct) (And.intro ⟨rfl, rfl, ?_, trivial⟩ (And.intro ?_ ⟨?_, ?_, hok.1, ?_, Hp.keep H10⟩))
          · show Value.int .i64 (IntKind.i64.wrap (i + 1)) = _
            rw [w64 (by omega) (by omega)]; rfl
          · simp only; omega
          · simp only; omega
          · exact ⟨en'.1, en'.2⟩
          · rw [hg, hd, rightGo, en, decide_eq_false h6, h7]; rfl
    · refine call_rule H8 (fun M I _ h => (addV_no en).symm ▸ add _ _ hs hok.2 _ M I h) fun _ w7 _ H9 => ?_
      refine Exists.intro () (And.intro (congrArg Value.bool ?_) (And.intro trivial (Hp.keep H9)))
      rw [hg, hd, rightGo, en]; rfl
  · refine Exists.intro () (And.intro (congrArg Value.bool ?_) (And.intro trivial (Hp.keep H4)))
    have : ls.length ≤ i := by omega
    rw [hg, List.drop_eq_nil_of_le this]; rfl
def accGo (k : Int) : List Leg → Int → Bool → Option (Int × Bool)
  | [], s, b => some (s, b)
  | l :: r, s, b => if l.acct = k then (if in64 (s + l.amt) then accGo k r (s + l.amt) true else none) else accGo k r s b
def refGo (ls : List Leg) : Nat → Nat → List Leg → List Leg
  | 0, _, out => out
  | d + 1, k, out => match accGo k ls 0 false with
    | none => []
    | some (s, b) => refGo ls d (k + 1) (if b then out ++ [⟨k, s⟩] else out)
def refMade (ls : List Leg) : List Leg := refGo ls 256 0 []
theorem sum_acc : ∀ (ls : List Leg) (m : List (Int × Int)), match sumGo ls m with
    | some m' => ∀ k, accGo k ls ((lk k m).getD 0) (lk k m).isSome = some ((lk k m').getD 0, (lk k m').isSome)
    | none => ∃ l, l ∈ ls ∧ accGo l.acct ls ((lk l.acct m).getD 0) (lk l.acct m).isSome = none
  | [], m => by simp [sumGo, accGo]
  | l :: r, m => by
    unfold sumGo
    by_cases hin : in64 ((lk l.acct m).getD 0 + l.amt) = true
    · rw [if_pos hin]
      have ih := sum_acc r (putL l.acct ((lk l.acct m).getD 0 + l.amt) m)
      have step : ∀ k, accGo k (l :: r) ((lk k m).getD 0) (lk k m).isSome = accGo k r ((lk k (putL l.acct ((lk l.acct m).getD 0 + l.amt) m)).getD 0) (lk k (putL l.acct ((lk l.acct m).getD 0 + l.amt) m)).isSome := fun k => by
        rw [lk_putL]
        by_cases hk : l.acct = k
        · subst hk; simp [accGo, hin]
        · simp [accGo, hk]
      cases hs : sumGo r (putL l.acct ((lk l.acct m).getD 0 + l.amt) m) with
      | some m' => rw [hs] at ih; exact fun k => (step k).trans (ih k)
      | none =>
        rw [hs] at ih
        obtain ⟨x, hx, h⟩ := ih
        exact ⟨x, List.mem_cons_of_mem _ hx, (step _).trans h⟩
    · rw [if_neg hin]
      exact ⟨l, List.mem_cons_self, by simp [accGo, hin]⟩
def refL (ls : List Leg) : Nat → Nat → List Leg
  | 0, _ => []
  | d + 1, k => match accGo k ls 0 false with
    | some (s, true) => ⟨k, s⟩ :: refL ls d (k + 1)
    | _ => refL ls d (k + 1)
theorem refGo_none {ls : List Leg} : ∀ (d k : Nat) (out : List Leg) (j : Nat), k ≤ j → j < k + d → accGo j ls 0 false = none → refGo ls d k out = []
  | 0, k, out, j, h1, h2, _ => by omega
  | d + 1, k, out, j, h1, h2, h => by
    unfold refGo
    cases hk : accGo k ls 0 false with
    | none => rfl
    | some p =>
      obtain ⟨s, b⟩ := p
      have hne : j ≠ k := fun e => by rw [e, hk] at h; cases h
      exact refGo_none d (k + 1) _ j (by omega) (by omega) h
theorem refGo_some {ls : List Leg} : ∀ (d k : Nat) (out : List Leg), (∀ j : Nat, accGo j ls 0 false ≠ none) → refGo ls d k out = out ++ refL ls d k
  | 0, k, out, _ => by simp [refGo, refL]
  | d + 1, k, out, h => by
    unfold refGo refL
    cases hk : accGo k ls 0 false with
    | none => exact absurd hk (h k)
    | some p =>
      obtain ⟨s, b⟩ := p
      cases b with
      | false => exact refGo_some d (k + 1) _ h
      | true =>
        simp only [if_true]
        rw [refGo_some d (k + 1) _ h]; simp
theorem mem_refL {ls : List Leg} {x : Leg} : ∀ (d k : Nat), x ∈ refL ls d k → ∃ j : Nat, k ≤ j ∧ j < k + d ∧ x.acct = j ∧ accGo j ls 0 false = some (x.amt, true)
  | 0, k, h => by simp [refL] at h
  | d + 1, k, h => by
    unfold refL at h
    split at h
    · rename_i s hk
      rcases List.mem_cons.1 h with rfl | h
      · exact ⟨k, by omega, by omega, rfl, hk⟩
      · obtain ⟨j, h1, h2, h3⟩ := mem_refL d (k + 1) h
        exact ⟨j, by omega, by omega, h3⟩
    · obtain ⟨j, h1, h2, h3⟩ := mem_refL d (k + 1) h
      exact ⟨j, by omega, by omega, h3⟩
theorem refL_mem {ls : List Leg} {j : Nat} {s : Int} (h : accGo j ls 0 false = some (s, true)) : ∀ (d k : Nat), k ≤ j → j < k + d → (⟨j, s⟩ : Leg) ∈ refL ls d k
  | 0, k, h1, h2 => by omega
  | d + 1, k, h1, h2 => by
    unfold refL
    by_cases hk : j = k
    · subst hk
      rw [h]; exact List.mem_cons_self
    · have ih := refL_mem h d (k + 1) (by omega) (by omega)
      split
      · exact List.mem_cons_of_mem _ ih
      · exact ih
theorem refL_rise {ls : List Leg} : ∀ (d k : Nat), rise (refL ls d k)
  | 0, k => List.Pairwise.nil
  | d + 1, k => by
    unfold refL
    split
    · refine List.pairwise_cons.2 ⟨fun y hy => ?_, refL_rise d (k + 1)⟩
      obtain ⟨j, h1, h2, h3, _⟩ := mem_refL d (k + 1) hy
      rw [h3]; simp only; omega
    · exact refL_rise d (k + 1)
theorem accGo_true {k : Int} : ∀ {ls : List Leg} {s s' : Int}, accGo k ls s false = some (s', true) → ∃ l, l ∈ ls ∧ l.acct = k
  | [], s, s', h => by simp [accGo] at h
  | l :: r, s, s', h => by
    unfold accGo at h
    by_cases hk : l.acct = k
    · exact ⟨l, List.mem_cons_self, hk⟩
    · rw [if_neg hk] at h
      obtain ⟨x, hx, e⟩ := accGo_true h
      exact ⟨x, List.mem_cons_of_mem _ hx, e⟩
theorem made_ref {ls out : List Leg} (hr : ∀ x, x ∈ ls → inK .u8 x.acct) (h : made ls out) : out = refMade ls := by
  have hsa := sum_acc ls []
  unfold made at h
  unfold refMade
  cases hs : sumGo ls [] with
  | none =>
    rw [hs] at h hsa
    obtain ⟨l, hl, ha⟩ := hsa
    obtain ⟨h0, h1⟩ := hr l hl
    simp only [kLo, kHi] at h0 h1
    have ha : accGo l.acct ls 0 false = none := ha
    have e : ((l.acct.toNat : Nat) : Int) = l.acct := by omega
    rw [refGo_none 256 0 [] l.acct.toNat (by omega) (by omega) (by rw [e]; exact ha)]
    exact h
  | some m =>
    rw [hs] at h hsa
    obtain ⟨hp, hsrt⟩ := h
    have hsa : ∀ k, accGo k ls 0 false = some ((lk k m).getD 0, (lk k m).isSome) := hsa
    have hnd := sumGo_nodup (by simp) hs
    rw [refGo_some 256 0 [] (fun j => by rw [hsa]; simp), List.nil_append]
    have hmem : ∀ x : Leg, x ∈ out ↔ lk x.acct m = some x.amt := fun x => by
      rw [hp.mem_iff, ← lk_iff hnd]
      constructor
      · intro h
        obtain ⟨q, hq, rfl⟩ := List.mem_map.1 h
        exact hq
      · intro h
        exact List.mem_map.2 ⟨(x.acct, x.amt), h, rfl⟩
    have hrise : rise out := by
      have hnd2 : (out.map Leg.acct).Nodup := by
        have := (hp.map Leg.acct).nodup_iff.2 (by rw [List.map_map]; exact hnd)
        exact this
      have h1 : out.Pairwise fun a b => a.acct ≠ b.acct := List.pairwise_map.1 hnd2
      exact (hsrt.and h1).imp fun h => by omega
    refine rise_eq hrise (refL_rise 256 0) fun x => ?_
    rw [hmem]
    constructor
    · intro hx
      have ha : accGo x.acct ls 0 false = some (x.amt, true) := by rw [hsa, hx]; rfl
      obtain ⟨l, hl, el⟩ := accGo_true ha
      obtain ⟨h0, h1⟩ := hr l hl
      simp only [kLo, kHi] at h0 h1
      have e : ((x.acct.toNat : Nat) : Int) = x.acct := by omega
      have := refL_mem (j := x.acct.toNat) (s := x.amt) (by rw [e]; exact ha) 256 0 (by omega) (by omega)
      rw [e] at this
      exact this
    · intro hx
      obtain ⟨j, _, _, e, ha⟩ := mem_refL 256 0 hx
      rw [hsa, ← e] at ha
      cases hl : lk x.acct m with
      | none => rw [hl] at ha; simp at ha
      | some v => rw [hl] at ha; simp at ha; rw [ha]
theorem equal (A B : Option Addr) (n c m d : Nat) (ls ms : List Leg) (w : World) (M I : BS) (H : Hp ⟨w, M, I⟩ [] [Sl legR (.slice A n c) ls, Sl legR (.slice B m d) ms] w) (hA : n = ls.length ∧ ls.length ≤ 9223372036854775807) (hB : m = ms.length) :
    Ctr Tryz.prog 49 [.slice A n c, .slice B m d] w M I (fun _ : Unit => .bool (legsEq ls ms)) (fun _ => True) (fun _ => []) (fun _ => []) := by
  obtain ⟨rfl, hlen⟩ := hA
  subst hB
  refine Exe.of_ev tok Tryz.call49 Tryz.func49 rfl rfl rfl ?_
  refine br (fun q2 => ?_) (fun q2 => ?_)
  · have q2 : ((ls.length : Int) != (ms.length : Int)) = true := q2
    have q2 : ls.length ≠ ms.length := fun h => by rw [h] at q2; simp at q2
    refine Exists.intro () (And.intro (congrArg Value.bool ?_) (And.intro trivial (Hp.keep H)))
    rw [legsEq_len q2]
  have q2 : ((ls.length : Int) != (ms.length : Int)) = false := q2
  have q2 : ls.length = ms.length := by
    have q2 : (ls.length : Int) = ms.length := by simpa using q2
    omega
  refine loop_rule tok (σ := Nat) 67100720 (fun i => [(13, .int .i64 i)])
    (fun i w' => i ≤ ls.length ∧ legsEq ls ms = legsEq (ls.drop i) (ms.drop i) ∧ Hp ⟨w, M, I⟩ [] [Sl legR (.slice A ls.length c) ls, Sl legR (.slice B ms.length d) ms] w') (fun i => ls.length - i) 0 rfl rfl ⟨rfl, trivial⟩
    ⟨Nat.zero_le _, rfl, H⟩ ?_
  rintro i j w3 ⟨hi, hg, H3⟩
  refine brd (fun h5 => ?_) (fun h5 => ?_)
  · have hil : i < ls.length := by omega
    obtain ⟨u, hu⟩ : ∃ u, ls[i]? = some u := ⟨_, List.getElem?_eq_getElem hil⟩
    obtain ⟨v, hv⟩ : ∃ v, ms[i]? = some v := ⟨_, List.getElem?_eq_getElem (by omega)⟩
    have hdu : ls.drop i = u :: ls.drop (i + 1) := by
      rw [List.drop_eq_getElem_cons hil]
      rw [List.getElem?_eq_getElem hil] at hu
      rw [Option.some.inj hu]
    have hdv : ms.drop i = v :: ms.drop (i + 1) := by
      rw [List.drop_eq_getElem_cons (by omega)]
      rw [List.getElem?_eq_getElem (by omega)] at hv
      rw [Option.some.inj hv]
    obtain ⟨b1, o1, rfl⟩ := H3.slAt (A := A) (n := ls.length) (c := c) (r := legR) (by omega)
    obtain ⟨b2, o2, rfl⟩ := H3.slAt (A := B) (n := ms.length) (c := d) (r := legR) (by omega)
    have i1 : (0 : Int) ≤ (i : Int) := by omega
    have i2 : (i : Int) < ls.length := h5
    have i3 : (i : Int) < ms.length := by omega
    refine draw_rule (A := []) tok tdr H3 [0, 1, 2, 3, 4, 5, 6, 7, 8] [0, 0, 3, 7, 0, 0, 48, 112, 255] rfl ?_
    refine pass_rule _ (fun w h => idx_own tok rfl rfl i1 i2 ⟨rfl, rfl⟩) ?_
    refine pass_rule _ (fun w h => sl_ld (n := ls.length) (c := c) (j := i) (f := 0) (r := legR) tok h (legV u) hu rfl (fun _ _ => rfl) ⟨rfl, rfl⟩) ?_
    refine pass_rule _ (fun w h => idx_own tok rfl rfl i1 i3 ⟨rfl, rfl⟩) ?_
    refine pass_rule _ (fun w h => sl_ld (n := ms.length) (c := d) (j := i) (f := 0) (r := legR) tok h (legV v) hv rfl (fun _ _ => rfl) ⟨rfl, rfl⟩) ?_
    refine pass_rule _ (fun w h => ne_struct tok (r := legEq u v) rfl Tryz.eqGuardType135 Tryz.stoodInHeld135 rfl ⟨rfl, rfl⟩) ?_
    refine done_rule fun w4 H4 => ?_
    refine br (fun q3 => ?_) (fun q3 => ?_)
    · have q3 : legEq u v = false := by simpa using q3
      refine Exists.intro () (And.intro (congrArg Value.bool ?_) (And.intro trivial (Hp.keep H4)))
      rw [hg, hdu, hdv, legsEq, q3, Bool.false_and]
    · have q3 : legEq u v = true := by simpa using q3
      refine Exists.intro (i + 1) (And.intro ⟨?_, trivial⟩ (And.intro ?_ ⟨?_, ?_, H4⟩))
      · show Value.int .i64 (IntKind.i64.wrap (i + 1)) = _
        rw [w64 (by omega) (by omega)]; rfl
      · omega
      · omega
      · rw [hg, hdu, hdv, legsEq, q3, Bool.true_and]
  · refine Exists.intro () (And.intro (congrArg Value.bool ?_) (And.intro trivial (Hp.keep H3)))
    rw [hg, List.drop_eq_nil_of_le (by omega), List.drop_eq_nil_of_le (by omega)]; rfl
theorem same_ (k l : Key) (A B : Option Addr) (n c m d : Nat) (ls ms : List Leg) (w : World) (M I : BS) (H : Hp ⟨w, M, I⟩ [] [Sl legR (.slice A n c) ls, Sl legR (.slice B m d) ms] w) (hA : n = ls.length ∧ ls.length ≤ 9223372036854775807) (hB : m = ms.length) :
    Ctr Tryz.prog 19 [.agg #[.int .u32 k.loan, .int .i32 k.day, .int .u8 k.kind, .int .u32 k.seq, .slice A n c], .agg #[.int .u32 l.loan, .int .i32 l.day, .int .u8 l.kind, .int .u32 l.seq, .slice B m d]] w M I (fun _ : Unit => .bool (sameB k l ls ms)) (fun _ => True) (fun _ => []) (fun _ => []) := by
  refine Exe.of_ev tok Tryz.call19 Tryz.func19 rfl rfl rfl ?_
  refine box_as H (entC k A n c) rfl fun x w1 H1 => ?_
  refine box_as H1 (entC l B m d) rfl fun y w2 H2 => ?_
  refine load_rule tok H2 (v := keyV k) rfl ?_
  refine load_rule tok H2 (v := keyV l) rfl ?_
  refine eq_struct tok (r := eqK k l) rfl Tryz.eqGuardType68 Tryz.stoodInHeld68 rfl ?_
  refine br (fun q => ?_) (fun q => ?_)
  · refine load_rule tok H2 (v := .slice A n c) rfl ?_
    refine load_rule tok H2 (v := .slice B m d) rfl ?_
    refine call_rule H2 (fun M I _ h => equal A B n c m d ls ms _ M I h hA hB) fun _ w3 _ H3 => ?_
    refine Exists.intro () (And.intro (congrArg Value.bool ?_) (And.intro trivial (Hp.keep H3)))
    rw [sameB, q]; rfl
  · refine Exists.intro () (And.intro (congrArg Value.bool ?_) (And.intro trivial (Hp.keep H2)))
    rw [sameB, q]; rfl
theorem neg (v : Int) (h : inK .i64 v) : CB 166 [.int .i64 v] (negR v) := by
  intro w M I H
  have h : -9223372036854775808 ≤ v ∧ v ≤ 9223372036854775807 := h
  refine Exe.of_ev tok Tryz.call166 Tryz.func166 rfl rfl rfl ?_
  refine brd (fun q => ?_) (fun q => ?_)
  · refine Exists.intro () (And.intro ?_ (And.intro trivial H))
    have q : v = -9223372036854775808 := q
    show Value.tuple #[.int .i64 0, .iface 100 (.int .i64 12)] = negR v
    rw [negR, if_pos q]
  · refine Exists.intro () (And.intro ?_ (And.intro trivial H))
    have q : ¬ v = -9223372036854775808 := q
    show Value.tuple #[.int .i64 (IntKind.i64.wrap (0 - v)), .nilIface] = negR v
    rw [negR, if_neg q, w64 (by omega) (by omega), Int.zero_sub]
set_option maxRecDepth 20000 in
set_option maxHeartbeats 1000000 in
theorem turned (k : Key) (hk : inK .u8 k.kind) (A : Option Addr) (n c : Nat) (ls : List Leg) (w : World) (M I : BS) (hM : ∀ b, ¬ M b) (H : Hp ⟨w, M, I⟩ [] [Sl legR (.slice A n c) ls] w) :
    Ctr Tryz.prog 113 [.agg #[.int .u32 k.loan, .int .i32 k.day, .int .u8 k.kind, .int .u32 k.seq, .slice A n c]] w M I (trV k) (trOk k ls) (fun _ => []) (fun a => [trF ls a]) := by
  obtain ⟨hn, hc, hc2⟩ := H.sll (A := A) (n := n) (c := c)
  have hok := legs_ok (A := A) (n := n) (c := c) H
  refine Exe.of_ev tok Tryz.call113 Tryz.func113 rfl rfl rfl ?_
  refine box_as H (entC k A n c) rfl fun x w1 H1 => ?_
  refine alloc_as tok H1 zeroC rfl rfl rfl fun r w2 H2 => ?_
  refine load_rule tok H2 (v := .agg #[.int .u32 k.loan, .int .i32 k.day, .int .u8 k.kind, .int .u32 k.seq, .slice A n c]) rfl ?_
  refine call_rule H2 (fun M I _ h => right k hk A n c ls _ M I h) fun _ w3 _ H3 => ?_
  refine br (fun q => ?_) (fun q => ?_)
  · have q : rightB k ls = false := by simpa using q
    refine store_as tok H3 zeroC rfl rfl rfl rfl rfl fun w4 H4 => ?_
    refine Exists.intro ⟨r, 0, none⟩ (Exists.intro (.agg #[.int .u32 0, .int .i32 0, .int .u8 0, .int .u32 0, .slice none 0 0]) (And.intro rfl (And.intro (Hp.ld (T := tb) tok H4 rfl) ?_)))
    exact Exists.intro (.bad 1) (And.intro rfl (And.intro (.inl ⟨q, rfl⟩) (Hp.keep (H4.addTt))))
  have q : rightB k ls = true := by simpa using q
  obtain ⟨_, q2, _⟩ := right_day q
  refine load_rule tok H3 (v := keyV k) rfl ?_
  refine alloc_as tok H3 zeroC rfl rfl rfl fun o w4 H4 => ?_
  refine store_as tok H4 (entC k none 0 0) rfl rfl rfl rfl rfl fun w5 H5 => ?_
  refine load_rule tok H5 (v := .slice A n c) rfl ?_
  have H5' : Hp ⟨w, M, I⟩ [row 135 2 (.slice none 0 0) 0 [], blk o (entC k none 0 0) 71, blk r zeroC 71, blk x (entC k A n c) 71] [Sl legR (.slice A n c) ls] w5 := (Hp.nil H5 135 2).keep
  have H5 : Hp ⟨w, M, I⟩ [row 135 2 (.slice none 0 0) 0 (legsC ((ls.take 0).map negL)), blk o (entC k none 0 0) 71, blk r zeroC 71, blk x (entC k A n c) 71] [Sl legR (.slice A n c) ls] w5 := H5'
  refine loop_rule tok (σ := Nat × SV) 17592184996296 (fun s => [(20, .int .i64 s.1)])
    (fun s w' => s.1 ≤ n ∧ s.2.n = s.1 ∧ (∀ y, y ∈ ls.take s.1 → y.amt ≠ -9223372036854775808) ∧ Hp ⟨w, M, I⟩ [row 135 2 (.slice s.2.A s.2.n s.2.c) s.2.n (legsC ((ls.take s.1).map negL)), blk o (entC k s.2.A s.2.n s.2.c) 71, blk r zeroC 71, blk x (entC k A n c) 71] [Sl legR (.slice A n c) ls] w') (fun s => n - s.1) (0, ⟨none, 0, 0⟩) rfl rfl ⟨rfl, trivial⟩ ⟨Nat.zero_le _, rfl, (fun y hy => by cases hy), H5⟩ ?_
  rintro ⟨i, A1, n1, c1⟩ j w6 ⟨hi, hn1, hmn, H6⟩
  simp only at hi hn1 hmn H6
  subst hn1
  refine brd (fun h => ?_) (fun h => ?_)
  · have h : (n1 : Int) < n := h
    obtain ⟨u, hu⟩ : ∃ u, ls[n1]? = some u := ⟨_, List.getElem?_eq_getElem (by omega)⟩
    have hum : u ∈ ls := List.mem_of_getElem? hu
    obtain ⟨b1, o1, rfl⟩ := H6.slAt (A := A) (n := n) (c := c) (r := legR) (by omega)
    refine idx_own tok rfl rfl (show (0 : Int) ≤ (n1 : Int) by omega) h ?_
    refine sl_ld (n := n) (c := c) (j := n1) (f := 0) (r := legR) tok H6 (legV u) hu rfl (fun _ _ => rfl) ?_
    refine alloc_as tok H6 [.int .u8 0, .int .i64 0] rfl rfl rfl fun l w7 H7 => ?_
    refine store_as tok H7 [.int .u8 u.acct, .int .i64 u.amt] rfl rfl rfl rfl rfl fun w8 H8 => ?_
    refine load_rule tok H8 (v := .int .i64 u.amt) rfl ?_
    rcases (show u.amt = -9223372036854775808 ∨ u.amt ≠ -9223372036854775808 by omega) with hu1 | hu1
    · have en : negR u.amt = .tuple #[.int .i64 0, .iface 100 (.int .i64 12)] := if_pos hu1
      refine call_rule H8 (fun M I _ h => en ▸ neg u.amt (hok u hum).2 _ M I h) fun _ w9 _ H9 => ?_
      refine store_as tok H9 zeroC rfl rfl rfl rfl rfl fun w10 H10 => ?_
      refine Exists.intro ⟨r, 0, none⟩ (Exists.intro (.agg #[.int .u32 0, .int .i32 0, .int .u8 0, .int .u32 0, .slice none 0 0]) (And.intro rfl (And.intro (Hp.ld (T := tb) tok H10 rfl) ?_)))
      exact Exists.intro (.bad 12) (And.intro rfl (And.intro (.inr ⟨q, turn_min hum hu1, rfl⟩) (Hp.keep (H10.addTt))))
    · have en : negR u.amt = .tuple #[.int .i64 (-u.amt), .nilIface] := if_neg hu1
      refine call_rule H8 (fun M I _ h => en ▸ neg u.amt (hok u hum).2 _ M I h) fun _ w9 _ H9 => ?_
      refine load_rule tok H9 (v := .slice A1 n1 c1) rfl ?_
      refine load_rule tok H9 (v := .int .u8 u.acct) rfl ?_
      refine slice_as tok H9 [.int .u8 u.acct, .int .i64 (-u.amt)] rfl rfl rfl rfl rfl rfl fun g w10 H10 => ?_
      refine append_rule (v := .slice A1 n1 c1) (b := g) (m := 1) (c := 1) tok H10 rfl rfl rfl rfl rfl rfl rfl rfl (by show (n1 + 1) * 16 ≤ _; omega) (by omega) fun A2 c2 w11 H11 => ?_
      refine store_as tok H11 (entC k A2 (n1 + 1) c2) rfl rfl rfl rfl rfl fun w12 H12 => ?_
      have e : legsC ((ls.take (n1 + 1)).map negL) = legsC ((ls.take n1).map negL) ++ [.int .u8 u.acct, .int .i64 (-u.amt)] := by
        rw [List.take_add_one, hu, List.map_append, legsC_app]; rfl
      have H13 : Hp ⟨w, M, I⟩ [row 135 2 (.slice A2 (n1 + 1) c2) (n1 + 1) (legsC ((ls.take n1).map negL) ++ [.int .u8 u.acct, .int .i64 (-u.amt)]), blk o (entC k A2 (n1 + 1) c2) 71, blk r zeroC 71, blk x (entC k (some ⟨b1, o1, none⟩) n c) 71] [Sl legR (.slice (some ⟨b1, o1, none⟩) n c) ls] w12 := H12.keep
      rw [← e] at H13
      refine Exists.intro (n1 + 1, ⟨A2, n1 + 1, c2⟩) (And.intro ⟨?_, trivial⟩ (And.intro ?_ ⟨?_, rfl, ?_, H13⟩))
      · show Value.int .i64 (IntKind.i64.wrap (n1 + 1)) = _
        rw [w64 (by omega) (by omega)]; rfl
      · simp only; omega
      · simp only; omega
      · intro y hy
        simp only at hy
        rw [List.take_add_one, hu] at hy
        rcases List.mem_append.1 hy with hy | hy
        · exact hmn y hy
        · simp only [Option.toList_some, List.mem_singleton] at hy
          rw [hy]; exact hu1
  · have h : ¬ (n1 : Int) < n := h
    have e1 : ls.take n1 = ls := List.take_of_length_le (by omega)
    rw [e1] at H6 hmn
    have H7 := frzLegsRow H6 (v := .slice A1 n1 c1) (ls.map negL) hM fun y hy => by
      obtain ⟨z, hz, rfl⟩ := List.mem_map.1 hy
      have h1 := (hok z hz).1
      have h2 : -9223372036854775808 ≤ z.amt ∧ z.amt ≤ 9223372036854775807 := (hok z hz).2
      have h3 := hmn z hz
      exact ⟨h1, by show -9223372036854775808 ≤ -z.amt; omega, by show -z.amt ≤ 9223372036854775807; omega⟩
    have hrt := rightB_neg (k := k) (fun y hy => ⟨hmn y hy, (hok y hy).2⟩) q
    refine load_rule tok H7 (v := .agg #[.int .u32 k.loan, .int .i32 k.day, .int .u8 k.kind, .int .u32 k.seq, .slice A1 n1 c1]) rfl ?_
    refine call_rule H7 (fun M I _ h => right k hk A1 n1 c1 (ls.map negL) _ M I h) fun _ w8 _ H8 => ?_
    refine br (fun q3 => ?_) (fun q3 => ?_)
    · have q3 : rightB k (ls.map negL) = false := by simpa using q3
      refine store_as tok H8 zeroC rfl rfl rfl rfl rfl fun w9 H9 => ?_
      refine Exists.intro ⟨r, 0, none⟩ (Exists.intro (.agg #[.int .u32 0, .int .i32 0, .int .u8 0, .int .u32 0, .slice none 0 0]) (And.intro rfl (And.intro (Hp.ld (T := tb) tok H9 rfl) ?_)))
      exact Exists.intro (.bad 12) (And.intro rfl (And.intro (.inr ⟨q, by rw [← hrt]; exact q3, rfl⟩) (Hp.keep (H9.addTt))))
    · have q3 : rightB k (ls.map negL) = true := by simpa using q3
      refine load_rule tok H8 (v := .agg #[.int .u32 k.loan, .int .i32 k.day, .int .u8 k.kind, .int .u32 k.seq, .slice A1 n1 c1]) rfl ?_
      refine store_as tok H8 (entC k A1 n1 c1) rfl rfl rfl rfl rfl fun w9 H9 => ?_
      refine Exists.intro ⟨r, 0, none⟩ (Exists.intro (.agg #[.int .u32 k.loan, .int .i32 k.day, .int .u8 k.kind, .int .u32 k.seq, .slice A1 n1 c1]) (And.intro rfl (And.intro (Hp.ld (T := tb) tok H9 rfl) ?_)))
      exact Exists.intro (.ok ⟨A1, n1, c1⟩) (And.intro rfl (And.intro ⟨q, by rw [← hrt]; exact q3, q3⟩ (Hp.keep H9)))
end Go.Proofs.YtjlfjjgjghdokaaGreatDoor
