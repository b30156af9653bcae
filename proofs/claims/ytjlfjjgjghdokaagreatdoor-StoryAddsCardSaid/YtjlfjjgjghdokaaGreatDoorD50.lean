/- The document's division, word, scale, month's interest: the walks. Printed by gen50.py. -/
import Derived.Test.YtjlfjjgjghdokaaGreatDoorD49
set_option linter.unusedVariables false
namespace Go.Proofs.YtjlfjjgjghdokaaGreatDoor
open Go Go.Proofs Go.Wk Go.Pl
theorem or32 (a s : Nat) (h : a * 2 ^ (s + 1) + 2 ^ s < 65536) : IntKind.u32.wrap (BitVec.ofInt IntKind.u32.bits ((a * 2 ^ (s + 1) : Nat) : Int) ||| BitVec.ofInt IntKind.u32.bits ((2 ^ s : Nat) : Int)).toNat = ((a * 2 ^ (s + 1) + 2 ^ s : Nat) : Int) := by
  have hb : 2 ^ s < 2 ^ (s + 1) := Nat.pow_lt_pow_right (by decide) (by omega)
  have h1 : (BitVec.ofNat 32 (a * 2 ^ (s + 1)) ||| BitVec.ofNat 32 (2 ^ s)).toNat = a * 2 ^ (s + 1) + 2 ^ s := by
    rw [BitVec.toNat_or, BitVec.toNat_ofNat, BitVec.toNat_ofNat, Nat.mod_eq_of_lt (by omega), Nat.mod_eq_of_lt (by omega)]
    have := Nat.shiftLeft_add_eq_or_of_lt (i := s + 1) (b := 2 ^ s) hb a
    rw [Nat.shiftLeft_eq] at this
    exact this.symm
  have h2 : (BitVec.ofInt IntKind.u32.bits ((a * 2 ^ (s + 1) : Nat) : Int) ||| BitVec.ofInt IntKind.u32.bits ((2 ^ s : Nat) : Int)).toNat = a * 2 ^ (s + 1) + 2 ^ s := h1
  rw [h2]
  exact wrap_id ⟨by show (0 : Int) ≤ _; omega, by show _ ≤ (4294967295 : Int); omega⟩
theorem shl32 (s : Nat) (hs : s < 16) : IntKind.u32.wrap (1 * 2 ^ min ((s : Int)).toNat IntKind.u32.bits) = ((2 ^ s : Nat) : Int) := by
  rw [Int.toNat_natCast, Nat.min_eq_left (by show s ≤ 32; omega), Int.one_mul]
  have e : ((2 : Int) ^ s) = ((2 ^ s : Nat) : Int) := by simp
  rw [e]
  have : 2 ^ s < 65536 := Nat.lt_of_lt_of_le (Nat.pow_lt_pow_right (by decide) hs) (by decide)
  revert this
  generalize 2 ^ s = z
  intro this
  exact wrap_id ⟨by show (0 : Int) ≤ _; omega, by show _ ≤ (4294967295 : Int); omega⟩
theorem shr32 (x s : Nat) (hs : s < 16) : ((x : Int)).fdiv (2 ^ min ((s : Int)).toNat IntKind.u32.bits) = ((x / 2 ^ s : Nat) : Int) := by
  rw [Int.toNat_natCast, Nat.min_eq_left (by show s ≤ 32; omega)]
  have e : ((2 : Int) ^ s) = ((2 ^ s : Nat) : Int) := by simp
  rw [e, Int.fdiv_eq_ediv_of_nonneg _ (Int.natCast_nonneg _)]
  exact (Int.natCast_ediv x (2 ^ s)).symm
theorem shl1 (x : Nat) (h : 2 * x < 18446744073709551616) : IntKind.u64.wrap ((x : Int) * 2 ^ min ((1 : Int)).toNat IntKind.u64.bits) = ((2 * x : Nat) : Int) := by
  have := shl64 x 1 (by decide)
  rw [Nat.pow_one, Nat.mul_comm x 2, Nat.mod_eq_of_lt h] at this
  exact this
theorem or1 (x b : Nat) (h : 2 * x + b < 18446744073709551616) (hb : b < 2) : IntKind.u64.wrap (BitVec.ofInt IntKind.u64.bits ((2 * x : Nat) : Int) ||| BitVec.ofInt IntKind.u64.bits (b : Int)).toNat = ((2 * x + b : Nat) : Int) := by
  have := or_high x 1 b (by rw [Nat.pow_one]; omega) (by rw [Nat.pow_one]; exact hb)
  rw [Nat.pow_one, Nat.mul_comm x 2] at this
  exact this
set_option maxHeartbeats 4000000 in
set_option maxRecDepth 20000 in
theorem refDiv (a : List Nat) (n : Nat) (hl : a.length = 8) (ha : ∀ x, x ∈ a → x < 65536) (h0 : 0 < n) (hn : n ≤ 4611686018427387904) : ∀ (w : World) (M I : BS), Hp ⟨w, M, I⟩ [] [] w → Ctr Tryz.prog 104 [bigV a, .int .u64 (n : Int)] w M I (fun l : List Nat => .tuple #[bigV l, .int .u64 ((Pl.val a % n : Nat) : Int)]) (fun l => l.length = 8 ∧ (∀ x, x ∈ l → x < 65536) ∧ Pl.val l = Pl.val a / n) (fun _ => []) (fun _ => []) := by
  intro w M I H
  obtain ⟨A, hA⟩ : ∃ A, A = Pl.val a := ⟨_, rfl⟩
  have hA2 : A < 2 ^ 128 := by
    have := val_lt a ha
    rw [hl] at this
    rw [hA]
    exact Nat.lt_of_lt_of_le this (by decide)
  have hbit : ∀ t x, a[t / 16]? = some x → x / 2 ^ (t % 16) % 2 = A / 2 ^ t % 2 := fun t x hx => by
    have h1 := val_at a (t / 16) x ha hx
    rw [← hA] at h1
    have h2 := bit_of h1 (show t % 16 < 16 from Nat.mod_lt _ (by decide))
    rw [show 16 * (t / 16) + t % 16 = t by omega] at h2
    exact h2
  rw [← hA]
  refine Exe.of_ev tok Tryz.call104 Tryz.func104 rfl rfl rfl ?_
  refine box_as H (bigC a) rfl fun pa w1 H1 => ?_
  refine alloc_as tok H1 (bigC [0, 0, 0, 0, 0, 0, 0, 0]) rfl rfl rfl fun r w2 H2 => ?_
  refine alloc_as tok H2 (bigC [0, 0, 0, 0, 0, 0, 0, 0]) rfl rfl rfl fun po w3 H3 => ?_
  have H3 : Hp ⟨w, M, I⟩ [blk po (bigC [0, 0, 0, 0, 0, 0, 0, 0]) 203, blk r (bigC [0, 0, 0, 0, 0, 0, 0, 0]) 203, blk pa (bigC a) 203] [] w3 := Hp.keep H3
  refine loop_rule tok (σ := Nat × List Nat × Nat) 281474976710528 (fun s => [(8, .int .i64 ((s.1 : Int) - 1)), (7, .int .u64 (s.2.2 : Int))]) (fun s w' => s.1 ≤ 128 ∧ DivI A n s.1 s.2.1 s.2.2 ∧ Hp ⟨w, M, I⟩ [blk po (bigC s.2.1) 203, blk r (bigC [0, 0, 0, 0, 0, 0, 0, 0]) 203, blk pa (bigC a) 203] [] w') (fun s => s.1) (128, [0, 0, 0, 0, 0, 0, 0, 0], 0) rfl rfl ⟨rfl, rfl, trivial⟩ ⟨Nat.le_refl _, DivI.start hA2, H3⟩ ?_
  intro s j w4 hW
  have h128 := hW.1
  have hI := hW.2.1
  have H4 := hW.2.2
  refine brd (fun q => ?_) (fun q => ?_)
  · have q : (0 : Int) ≤ (s.1 : Int) - 1 := q
    refine Exists.elim (show ∃ t, t + 1 = s.1 from ⟨s.1 - 1, by omega⟩) fun t ht => ?_
    have ez : (s.1 : Int) - 1 = (t : Int) := by omega
    have hI1 : DivI A n (t + 1) s.2.1 s.2.2 := ht ▸ hI
    have e16 : IntKind.i64.wrap (((s.1 : Int) - 1).tdiv 16) = ((t / 16 : Nat) : Int) := by rw [ez]; exact w64 (by show (-9223372036854775808 : Int) ≤ ((t / 16 : Nat) : Int); omega) (by show ((t / 16 : Nat) : Int) ≤ _; omega)
    have r16 : ((s.1 : Int) - 1).tmod 16 = ((t % 16 : Nat) : Int) := by rw [ez]; rfl
    have ew : IntKind.i64.wrap ((s.1 : Int) - 1 - 1) = (t : Int) - 1 := by rw [ez]; exact w64 (by omega) (by omega)
    have ht16 : t / 16 < 8 := by omega
    have hr16 : t % 16 < 16 := Nat.mod_lt _ (by decide)
    refine Exists.elim (get8 hl ht16) fun x hx => ?_
    refine Exists.elim (get8 hI1.len ht16) fun y hy => ?_
    have hxl := ha x (List.mem_of_getElem? hx)
    have hb := hbit t x hx
    have hxs : x / 2 ^ (t % 16) ≤ x := Nat.div_le_self _ _
    have ew2 : IntKind.u64.wrap ((x / 2 ^ (t % 16) : Nat) : Int) = ((x / 2 ^ (t % 16) : Nat) : Int) := u64s (by omega)
    have erb : (IntKind.u64.wrap ((x / 2 ^ (t % 16) : Nat) : Int)).tmod 2 = ((A / 2 ^ t % 2 : Nat) : Int) := by rw [ew2, ← hb]; rfl
    have hbl : A / 2 ^ t % 2 < 2 := Nat.mod_lt _ (by decide)
    have hll : s.2.2 < n := by rw [hI1.l]; exact Nat.mod_lt _ h0
    refine quo_as ((t / 16 : Nat) : Int) (by decide) e16 ?_
    refine arrIx_rule tok (t / 16) rfl rfl rfl (sz := 1) rfl ht16 ?_
    refine load_rule tok H4 (v := .int .u32 (x : Int)) (ldAt hx) ?_
    refine rem_as ((t % 16 : Nat) : Int) (by decide) r16 ?_
    refine shr_as ((x / 2 ^ (t % 16) : Nat) : Int) (by omega) (shr32 x (t % 16) hr16) ?_
    refine rem_as ((A / 2 ^ t % 2 : Nat) : Int) (by decide) erb ?_
    refine shl_as ((2 * s.2.2 : Nat) : Int) (by decide) (shl1 s.2.2 (by omega)) ?_
    refine or_as ((2 * s.2.2 + A / 2 ^ t % 2 : Nat) : Int) (or1 s.2.2 (A / 2 ^ t % 2) (by omega) hbl) ?_
    refine brd (fun q2 => ?_) (fun q2 => ?_)
    · have q2 : (9223372036854775808 : Int) ≤ (s.2.2 : Int) := q2
      omega
    refine brd (fun q3 => ?_) (fun q3 => ?_)
    · have q3 : (n : Int) ≤ ((2 * s.2.2 + A / 2 ^ t % 2 : Nat) : Int) := q3
      have q3' : n ≤ 2 * s.2.2 + A / 2 ^ t % 2 := by omega
      have hstep := hI1.yes h0 hy q3'
      refine Exists.elim (free_bit hI1.lt hI1.v hy) fun av hav => ?_
      have eor : IntKind.u32.wrap (BitVec.ofInt IntKind.u32.bits (y : Int) ||| BitVec.ofInt IntKind.u32.bits ((2 ^ (t % 16) : Nat) : Int)).toNat = ((y + 2 ^ (t % 16) : Nat) : Int) := by
        have h2 := hav.2
        rw [hav.1] at h2 ⊢
        exact or32 av (t % 16) h2
      have esub : IntKind.u64.wrap (((2 * s.2.2 + A / 2 ^ t % 2 : Nat) : Int) - (n : Int)) = ((2 * s.2.2 + A / 2 ^ t % 2 - n : Nat) : Int) := by rw [u64w]; omega
      refine draw_rule (A := [blk po (bigC s.2.1) 203]) tok tdr H4 [0, 1, 2, 3, 4, 5, 6, 7, 8, 9] [0, 1, 3, 7, 0, 16, 48, 127, 255, 511] rfl ?_
      refine pass_rule _ (fun w h => quo_as ((t / 16 : Nat) : Int) (by decide) e16 ⟨rfl, rfl⟩) ?_
      refine pass_rule _ (fun w h => arrIx_rule tok (t / 16) rfl rfl rfl (sz := 1) rfl ht16 ⟨rfl, rfl⟩) ?_
      refine pass_last _ rfl (fun X w h => load_rule tok h (v := .int .u32 (y : Int)) (ldAt hy) ⟨rfl, rfl⟩) ?_
      refine pass_rule _ (fun w h => rem_as ((t % 16 : Nat) : Int) (by decide) r16 ⟨rfl, rfl⟩) ?_
      refine pass_rule _ (fun w h => shl_as ((2 ^ (t % 16) : Nat) : Int) (by omega) (shl32 (t % 16) hr16) ⟨rfl, rfl⟩) ?_
      refine pass_rule _ (fun w h => or_as ((y + 2 ^ (t % 16) : Nat) : Int) eor ⟨rfl, rfl⟩) ?_
      refine pass_rule _ (fun w h => arrIx_rule tok (t / 16) rfl rfl rfl (sz := 1) rfl ht16 ⟨rfl, rfl⟩) ?_
      refine imp_rule (fun X wx h => store_as tok h (bigC (s.2.1.set (t / 16) (y + 2 ^ (t % 16)))) rfl rfl (bleB hI1.len ht16) rfl (stAt _ _ _ rfl) fun w1 H1 => imp_done H1 ?_)
      refine done_rule fun wb Hb => ?_
      exact Exists.intro (t, s.2.1.set (t / 16) (y + 2 ^ (t % 16)), 2 * s.2.2 + A / 2 ^ t % 2 - n) (And.intro ⟨congrArg (Value.int .i64) ew, congrArg (Value.int .u64) esub, trivial⟩ (And.intro (by show t < s.1; omega) ⟨by show t ≤ 128; omega, hstep, Hp.keep Hb⟩))
    · have q3 : ¬ (n : Int) ≤ ((2 * s.2.2 + A / 2 ^ t % 2 : Nat) : Int) := q3
      have hstep := hI1.no h0 (show ¬ n ≤ 2 * s.2.2 + A / 2 ^ t % 2 by omega)
      exact Exists.intro (t, s.2.1, 2 * s.2.2 + A / 2 ^ t % 2) (And.intro ⟨congrArg (Value.int .i64) ew, rfl, trivial⟩ (And.intro (by show t < s.1; omega) ⟨by show t ≤ 128; omega, hstep, H4⟩))
  · have q : ¬ (0 : Int) ≤ (s.1 : Int) - 1 := q
    have e0 : s.1 = 0 := by omega
    have hI0 : DivI A n 0 s.2.1 s.2.2 := e0 ▸ hI
    have hf := hI0.fin
    refine load_rule tok H4 (v := bigV s.2.1) (ldBig hI0.len) ?_
    refine store_as tok H4 (bigC s.2.1) rfl (bigHs hI0.len) (bigHl hI0.len rfl) (bigH1 hI0.len) (bigHc hI0.len rfl) fun wd Hd => ?_
    refine Exists.intro ⟨r, 0, none⟩ (Exists.intro (bigV s.2.1) (And.intro rfl (And.intro (Hp.ld (T := tb) tok Hd (ldBig hI0.len)) ?_)))
    exact Exists.intro s.2.1 (And.intro (congrArg (fun z : Nat => Value.tuple #[bigV s.2.1, .int .u64 (z : Int)]) hf.2) (And.intro ⟨hI0.len, hI0.lt, hf.1⟩ (Hp.keep Hd)))
/-! A word of it. -/
theorem val_drop {l : List Nat} {t x : Nat} (h : l[t]? = some x) : Pl.val (l.drop t) = x + 65536 * Pl.val (l.drop (t + 1)) := by
  have ht := (List.getElem?_eq_some_iff.1 h)
  obtain ⟨h1, h2⟩ := ht
  rw [List.drop_eq_getElem_cons h1, h2]; rfl
theorem val_drop_le : ∀ (l : List Nat) (t : Nat), Pl.val (l.drop t) ≤ Pl.val l
  | l, 0 => Nat.le_refl _
  | [], t + 1 => Nat.le_refl _
  | x :: l, t + 1 => by
    have := val_drop_le l t
    rw [List.drop_succ_cons, Pl.val]; omega
set_option maxHeartbeats 4000000 in
set_option maxRecDepth 20000 in
theorem refWordLo (l : List Nat) (hl : l.length = 8) (hv : Pl.val ((l.drop 0).take 4) < 18446744073709551616) : CB 106 [bigV l, .bool false] (.int .u64 ((Pl.val ((l.drop 0).take 4) : Nat) : Int)) := by
  intro w M I H
  obtain ⟨m, hm⟩ : ∃ m, m = (l.drop 0).take 4 := ⟨_, rfl⟩
  have lm : m.length = 4 := by rw [hm, List.length_take, List.length_drop]; omega
  have gm : ∀ t, t < 4 → ∀ x, m[t]? = some x → l[0 + t]? = some x := fun t ht x hx => by
    rw [hm, List.getElem?_take, if_pos ht, List.getElem?_drop] at hx
    exact hx
  rw [← hm] at hv ⊢
  refine Exe.of_ev tok Tryz.call106 Tryz.func106 rfl rfl rfl ?_
  refine box_as H (bigC l) rfl fun pa w1 H1 => ?_
  have H1 : Hp ⟨w, M, I⟩ [blk pa (bigC l) 203] [] w1 := Hp.keep H1
  refine loop_rule tok (σ := Nat) 4193984 (fun t => [(7, .int .i64 ((t : Int) - 1)), (6, .int .u64 ((Pl.val (m.drop t) : Nat) : Int))]) (fun t w' => t ≤ 4 ∧ Hp ⟨w, M, I⟩ [blk pa (bigC l) 203] [] w') (fun t => t) 4 rfl rfl ⟨rfl, congrArg (fun z : Nat => Value.int .u64 (z : Int)) (show 0 = Pl.val (m.drop 4) by rw [List.drop_eq_nil_of_le (by omega)]; rfl), trivial⟩ ⟨Nat.le_refl _, H1⟩ ?_
  intro s j w4 hW
  have h4 := hW.1
  have H4 := hW.2
  refine brd (fun q => ?_) (fun q => ?_)
  · have q : (0 : Int) ≤ (s : Int) - 1 := q
    refine Exists.elim (show ∃ t, t + 1 = s from ⟨s - 1, by omega⟩) fun t ht => ?_
    have ez : (s : Int) - 1 = (t : Int) := by omega
    refine Exists.elim (get8 lm (show t < 4 by omega)) fun x hx => ?_
    have hlx := gm t (by omega) x hx
    have e1 := val_drop hx
    have hle := val_drop_le m t
    rw [ht] at e1
    have ew : IntKind.i64.wrap ((s : Int) - 1 - 1) = (t : Int) - 1 := by rw [ez]; exact w64 (by omega) (by omega)
    have ei : IntKind.i64.wrap (0 + ((s : Int) - 1)) = ((0 + t : Nat) : Int) := by rw [ez]; exact w64 (by omega) (by omega)
    have ev : IntKind.u64.wrap (IntKind.u64.wrap (((Pl.val (m.drop s) : Nat) : Int) * 65536) + IntKind.u64.wrap (x : Int)) = ((Pl.val (m.drop t) : Nat) : Int) := by
      rw [u64w, u64w, u64w]; omega
    refine arrIx_rule tok (0 + t) ei rfl rfl (sz := 1) rfl (show 0 + t < 8 by omega) ?_
    refine load_rule tok H4 (v := .int .u32 (x : Int)) (ldAt hlx) ?_
    exact Exists.intro t (And.intro ⟨congrArg (Value.int .i64) ew, congrArg (Value.int .u64) ev, trivial⟩ (And.intro (by show t < s; omega) ⟨by omega, H4⟩))
  · have q : ¬ (0 : Int) ≤ (s : Int) - 1 := q
    have e0 : s = 0 := by omega
    exact Exists.intro () (And.intro (congrArg (fun z : Nat => Value.int .u64 (z : Int)) (show Pl.val (m.drop s) = Pl.val m by rw [e0, List.drop_zero])) (And.intro trivial (Hp.keep H4)))
set_option maxHeartbeats 4000000 in
set_option maxRecDepth 20000 in
theorem refWordHi (l : List Nat) (hl : l.length = 8) (hv : Pl.val ((l.drop 4).take 4) < 18446744073709551616) : CB 106 [bigV l, .bool true] (.int .u64 ((Pl.val ((l.drop 4).take 4) : Nat) : Int)) := by
  intro w M I H
  obtain ⟨m, hm⟩ : ∃ m, m = (l.drop 4).take 4 := ⟨_, rfl⟩
  have lm : m.length = 4 := by rw [hm, List.length_take, List.length_drop]; omega
  have gm : ∀ t, t < 4 → ∀ x, m[t]? = some x → l[4 + t]? = some x := fun t ht x hx => by
    rw [hm, List.getElem?_take, if_pos ht, List.getElem?_drop] at hx
    exact hx
  rw [← hm] at hv ⊢
  refine Exe.of_ev tok Tryz.call106 Tryz.func106 rfl rfl rfl ?_
  refine box_as H (bigC l) rfl fun pa w1 H1 => ?_
  have H1 : Hp ⟨w, M, I⟩ [blk pa (bigC l) 203] [] w1 := Hp.keep H1
  refine loop_rule tok (σ := Nat) 4193984 (fun t => [(7, .int .i64 ((t : Int) - 1)), (6, .int .u64 ((Pl.val (m.drop t) : Nat) : Int))]) (fun t w' => t ≤ 4 ∧ Hp ⟨w, M, I⟩ [blk pa (bigC l) 203] [] w') (fun t => t) 4 rfl rfl ⟨rfl, congrArg (fun z : Nat => Value.int .u64 (z : Int)) (show 0 = Pl.val (m.drop 4) by rw [List.drop_eq_nil_of_le (by omega)]; rfl), trivial⟩ ⟨Nat.le_refl _, H1⟩ ?_
  intro s j w4 hW
  have h4 := hW.1
  have H4 := hW.2
  refine brd (fun q => ?_) (fun q => ?_)
  · have q : (0 : Int) ≤ (s : Int) - 1 := q
    refine Exists.elim (show ∃ t, t + 1 = s from ⟨s - 1, by omega⟩) fun t ht => ?_
    have ez : (s : Int) - 1 = (t : Int) := by omega
    refine Exists.elim (get8 lm (show t < 4 by omega)) fun x hx => ?_
    have hlx := gm t (by omega) x hx
    have e1 := val_drop hx
    have hle := val_drop_le m t
    rw [ht] at e1
    have ew : IntKind.i64.wrap ((s : Int) - 1 - 1) = (t : Int) - 1 := by rw [ez]; exact w64 (by omega) (by omega)
    have ei : IntKind.i64.wrap (4 + ((s : Int) - 1)) = ((4 + t : Nat) : Int) := by rw [ez]; exact w64 (by omega) (by omega)
    have ev : IntKind.u64.wrap (IntKind.u64.wrap (((Pl.val (m.drop s) : Nat) : Int) * 65536) + IntKind.u64.wrap (x : Int)) = ((Pl.val (m.drop t) : Nat) : Int) := by
      rw [u64w, u64w, u64w]; omega
    refine arrIx_rule tok (4 + t) ei rfl rfl (sz := 1) rfl (show 4 + t < 8 by omega) ?_
    refine load_rule tok H4 (v := .int .u32 (x : Int)) (ldAt hlx) ?_
    exact Exists.intro t (And.intro ⟨congrArg (Value.int .i64) ew, congrArg (Value.int .u64) ev, trivial⟩ (And.intro (by show t < s; omega) ⟨by omega, H4⟩))
  · have q : ¬ (0 : Int) ≤ (s : Int) - 1 := q
    have e0 : s = 0 := by omega
    exact Exists.intro () (And.intro (congrArg (fun z : Nat => Value.int .u64 (z : Int)) (show Pl.val (m.drop s) = Pl.val m by rw [e0, List.drop_zero])) (And.intro trivial (Hp.keep H4)))
theorem words_of {l : List Nat} (hl : l.length = 8) (hlt : ∀ x, x ∈ l → x < 65536) (hv : Pl.val l < 18446744073709551616) : Pl.val ((l.drop 0).take 4) = Pl.val l ∧ Pl.val ((l.drop 4).take 4) = 0 := by
  have e : l = l.take 4 ++ l.drop 4 := (List.take_append_drop 4 l).symm
  have h1 := val_app (l.take 4) (l.drop 4)
  rw [← e, List.length_take, hl] at h1
  have h2 : (l.drop 4).take 4 = l.drop 4 := List.take_of_length_le (by rw [List.length_drop]; omega)
  rw [List.drop_zero, h2]
  have e4 : (65536 : Nat) ^ min 4 8 = 18446744073709551616 := by decide
  rw [e4] at h1
  omega
set_option maxHeartbeats 2000000 in
set_option maxRecDepth 20000 in
theorem refScale (a b c : Nat) (ha : a < 18446744073709551616) (hb : b < 18446744073709551616) (h0 : 0 < c) (hc : c ≤ 4611686018427387904) (hq : a * b / c < 18446744073709551616) : CB 179 [.int .u64 (a : Int), .int .u64 (b : Int), .int .u64 (c : Int)] (.tuple #[.int .u64 ((a * b / c : Nat) : Int), .int .u64 ((a * b % c : Nat) : Int), .int .i64 0]) := by
  intro w M I H
  refine Exe.of_ev tok Tryz.call179 Tryz.func179 rfl rfl rfl ?_
  refine br (fun q => ?_) (fun q => ?_)
  · have q : ((c : Int) == 0) = true := q
    simp at q; omega
  refine call_rule H (fun M I _ h => refMul a b ha hb _ M I h) fun m w1 hm H1 => ?_
  have hm1 := hm.1
  have hm2 := hm.2.1
  have hm3 := hm.2.2
  refine call_rule H1 (fun M I _ h => (show Ctr Tryz.prog 104 [bigV m, .int .u64 (c : Int)] _ M I (fun l : List Nat => .tuple #[bigV l, .int .u64 ((a * b % c : Nat) : Int)]) (fun l => l.length = 8 ∧ (∀ x, x ∈ l → x < 65536) ∧ Pl.val l = a * b / c) (fun _ => []) (fun _ => []) from hm3 ▸ refDiv m c hm1 hm2 h0 hc _ M I h)) fun l w2 hl H2 => ?_
  have hl1 := hl.1
  have hv : Pl.val l < 18446744073709551616 := by rw [hl.2.2]; exact hq
  have hw := words_of hl1 hl.2.1 hv
  refine alloc_as tok H2 (bigC [0, 0, 0, 0, 0, 0, 0, 0]) rfl rfl rfl fun p w3 H3 => ?_
  refine store_as tok H3 (bigC l) rfl (bigHs hl1) (bigHl hl1 rfl) (bigH1 hl1) (bigHc hl1 rfl) fun w4 H4 => ?_
  refine load_rule tok H4 (v := bigV l) (ldBig hl1) ?_
  refine call_rule H4 (fun M I _ h => (show Ctr Tryz.prog 106 [bigV l, .bool true] _ M I (fun _ : Unit => .int .u64 0) (fun _ => True) (fun _ => []) (fun _ => []) from (by
    have h1 := refWordHi l hl1 (by rw [hw.2]; decide) _ M I h
    rw [hw.2] at h1
    exact h1))) fun _ w5 _ H5 => ?_
  refine load_rule tok H5 (v := bigV l) (ldBig hl1) ?_
  refine call_rule H5 (fun M I _ h => (show Ctr Tryz.prog 106 [bigV l, .bool false] _ M I (fun _ : Unit => .int .u64 ((a * b / c : Nat) : Int)) (fun _ => True) (fun _ => []) (fun _ => []) from (by
    have h1 := refWordLo l hl1 (by rw [hw.1]; exact hv) _ M I h
    rw [hw.1, hl.2.2] at h1
    exact h1))) fun _ w6 _ H6 => ?_
  exact Exists.intro () (And.intro rfl (And.intro trivial (Hp.keep H6)))
@[reducible] def rrC (parts : Int) (b : Bool) : List Value := [.int .u32 parts, .bool b]
@[reducible] def rrV (parts : Int) (b : Bool) : Value := .agg #[.int .u32 parts, .bool b]
theorem iM_eq (p parts : Nat) : (if (6000000 : Nat) ≤ p * parts % 12000000 then p * parts / 12000000 + 1 else p * parts / 12000000) = monN parts p := by
  unfold monN roundN
  rw [← Nat.mul_assoc]
  exact round_month
/-- The document's interest of a month. -/
theorem refMonth (parts left : Int) (b : Bool) (h0 : 0 ≤ parts) (h1 : parts ≤ 1000000) (hl : 0 ≤ left) (hl2 : left ≤ 1000000000000) : CB 123 [rrV parts b, .int .i64 left] (.int .i64 (iM parts left)) := by
  intro w M I H
  obtain ⟨p, rfl⟩ : ∃ p : Nat, left = p := ⟨left.toNat, by omega⟩
  obtain ⟨t, rfl⟩ : ∃ t : Nat, parts = t := ⟨parts.toNat, by omega⟩
  have e1 : IntKind.u64.wrap (p : Int) = (p : Int) := u64n (by omega)
  have e2 : IntKind.u64.wrap (t : Int) = (t : Int) := u64n (by omega)
  have hpt : p * t ≤ 1000000000000 * 1000000 := Nat.mul_le_mul (by omega) (by omega)
  have hq : p * t / 12000000 ≤ 1000000000000 := Nat.div_le_of_le_mul (by omega)
  have cS : ∀ (w : World) (M I : BS), Hp ⟨w, M, I⟩ [] [] w → Ctr Tryz.prog 179 [.int .u64 (IntKind.u64.wrap (p : Int)), .int .u64 (IntKind.u64.wrap (t : Int)), .int .u64 12000000] w M I (fun _ : Unit => .tuple #[.int .u64 ((p * t / 12000000 : Nat) : Int), .int .u64 ((p * t % 12000000 : Nat) : Int), .int .i64 0]) (fun _ => True) (fun _ => []) (fun _ => []) := by
    rw [e1, e2]
    exact refScale p t 12000000 (by omega) (by omega) (by decide) (by decide) (by omega)
  refine Exe.of_ev tok Tryz.call123 Tryz.func123 rfl rfl rfl ?_
  refine box_as H (rrC t b) rfl fun r w1 H1 => ?_
  refine load_rule tok H1 (v := .int .u32 (t : Int)) rfl ?_
  refine call_rule H1 (fun M I _ h => cS _ M I h) fun _ w2 _ H2 => ?_
  have em := iM_eq p t
  have ei : iM (t : Int) (p : Int) = ((monN t p : Nat) : Int) := by unfold iM; rw [Int.toNat_natCast, Int.toNat_natCast]
  refine brd (fun q => ?_) (fun q => ?_)
  · have q : (6000000 : Int) ≤ ((p * t % 12000000 : Nat) : Int) := q
    have ew : IntKind.i64.wrap (IntKind.u64.wrap (((p * t / 12000000 : Nat) : Int) + 1)) = iM t p := by
      rw [ei, ← em, if_pos (by omega), u64w, w64 (by omega) (by omega)]; omega
    exact Exists.intro () (And.intro (congrArg (Value.int .i64) ew) (And.intro trivial (Hp.keep H2)))
  · have q : ¬ (6000000 : Int) ≤ ((p * t % 12000000 : Nat) : Int) := q
    have ew : IntKind.i64.wrap ((p * t / 12000000 : Nat) : Int) = iM t p := by
      rw [ei, ← em, if_neg (by omega), w64 (by omega) (by omega)]
    exact Exists.intro () (And.intro (congrArg (Value.int .i64) ew) (And.intro trivial (Hp.keep H2)))
end Go.Proofs.YtjlfjjgjghdokaaGreatDoor
