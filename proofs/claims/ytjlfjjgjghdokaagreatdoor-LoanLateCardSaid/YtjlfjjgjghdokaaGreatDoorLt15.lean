/- The document's division, word, scale, month's interest: the walks. Printed by gen50.py. -/
import Derived.Test.YtjlfjjgjghdokaaGreatDoorLt14
set_option linter.unusedVariables false
namespace Go.Proofs.YtjlfjjgjghdokaaGreatDoor
open Go Go.Proofs Go.Wk Go.Pl
theorem or32 (a s : Nat) (h : a * 2 ^ (s + 1) + 2 ^ s < 65536) : IntKind.u32.wrap (BitVec.ofInt IntKind.u32.bits ((a * 2 ^ (s + 1) : Nat) : Int) ||| BitVec.ofInt IntKind.u32.bits ((2 ^ s : Nat) : Int)).toNat = ((a * 2 ^ (s + 1) + 2 ^ s : Nat) : Int) := by
  have hb : 2 ^ s < 2 ^ (s + 1) := Nat.pow_lt_pow_right (by decide) (by omega)
  have h1 : (BitVec.ofNat 32 (a * 2 ^ (s + 1)) ||| BitVec.ofNat 32 (2 ^ s)).toNat = a * 2 ^ (s + 1) + 2 ^ s := by
    rw [BitVec.toNat_or, BitVec.toNat_ofNat, BitVec.toNat_ofNat, Nat.mod_eq_of_lt (by omega), Nat.mod_eq_of_lt (by omega)]
    have := Nat.shiftLeft_add_eq_or_of_lt (i := s + 1) (b := 2 ^ s) hb a
    rw [Nat.shiftLeft_eq] at this
    exact this.symm
  have h2 : (BitVec.ofInt IntKind.u32.bits ((a * 2 ^ (s + 1) : Nat) : Int) ||| BitVec.ofInt IntKind.u32.bits ((2 ^ s : Nat) : Int)).toNat = a * 2 ^ (s + 1) + 2 ^ s := h1
  rw [h2]
  exact wrap_id ⟨by show (0 : Int) ≤ _; omega, by show _ ≤ (4294967295 : Int); omega⟩
theorem shl32 (s : Nat) (hs : s < 16) : IntKind.u32.wrap (1 * 2 ^ min ((s : Int)).toNat IntKind.u32.bits) = ((2 ^ s : Nat) : Int) := by
  rw [Int.toNat_natCast, Nat.min_eq_left (by show s ≤ 32; omega), Int.one_mul]
  have e : ((2 : Int) ^ s) = ((2 ^ s : Nat) : Int) := by simp
  rw [e]
  have : 2 ^ s < 65536 := Nat.lt_of_lt_of_le (Nat.pow_lt_pow_right (by decide) hs) (by decide)
  revert this
  generalize 2 ^ s = z
  intro this
  exact wrap_id ⟨by show (0 : Int) ≤ _; omega, by show _ ≤ (4294967295 : Int); omega⟩
theorem shr32 (x s : Nat) (hs : s < 16) : ((x : Int)).fdiv (2 ^ min ((s : Int)).toNat IntKind.u32.bits) = ((x / 2 ^ s : Nat) : Int) := by
  rw [Int.toNat_natCast, Nat.min_eq_left (by show s ≤ 32; omega)]
  have e : ((2 : Int) ^ s) = ((2 ^ s : Nat) : Int) := by simp
  rw [e, Int.fdiv_eq_ediv_of_nonneg _ (Int.natCast_nonneg _)]
  exact (Int.natCast_ediv x (2 ^ s)).symm
theorem shl1 (x : Nat) (h : 2 * x < 18446744073709551616) : IntKind.u64.wrap ((x : Int) * 2 ^ min ((1 : Int)).toNat IntKind.u64.bits) = ((2 * x : Nat) : Int) := by
  have := shl64 x 1 (by decide)
  rw [Nat.pow_one, Nat.mul_comm x 2, Nat.mod_eq_of_lt h] at this
  exact this
theorem or1 (x b : Nat) (h : 2 * x + b < 18446744073709551616) (hb : b < 2) : IntKind.u64.wrap (BitVec.ofInt IntKind.u64.bits ((2 * x : Nat) : Int) ||| BitVec.ofInt IntKind.u64.bits (b : Int)).toNat = ((2 * x + b : Nat) : Int) := by
  have := or_high x 1 b (by rw [Nat.pow_one]; omega) (by rw [Nat.pow_one]; exact hb)
  rw [Nat.pow_one, Nat.mul_comm x 2] at this
  exact this
set_option maxHeartbeats 4000000 in
set_option maxRecDepth 20000 in
theorem refDiv (a : List Nat) (n : Nat) (hl : a.length = 8) (ha : ∀ x, x ∈ a → x < 65536) (h0 : 0 < n) (hn : n ≤ 4611686018427387904) : ∀ (w : World) (M I : BS), Hp ⟨w, M, I⟩ [] [] w → Ctr Tryz.prog 104 [bigV a, .int .u64 (n : Int)] w M I (fun l : List Nat => .tuple #[bigV l, .int .u64 ((Pl.val a % n : Nat) : Int)]) (fun l => l.length = 8 ∧ (∀ x, x ∈ l → x < 65536) ∧ Pl.val l = Pl.val a / n) (fun _ => []) (fun _ => []) := by
  intro w M I H
  obtain ⟨A, hA⟩ : ∃ A, A = Pl.val a := ⟨_, rfl⟩
  have hA2 : A < 2 ^ 128 := by
    have := val_lt a ha
    rw [hl] at this
    rw [hA]
    exact Nat.lt_of_lt_of_le this (by decide)
  have hbit : ∀ t x, a[t / 16]? = some x → x / 2 ^ (t % 16) % 2 = A / 2 ^ t % 2 := fun t x hx => by
    have h1 := val_at a (t / 16) x ha hx
    rw [← hA] at h1
    have h2 := bit_of h1 (show t % 16 < 16 from Nat.mod_lt _ (by decide))
    rw [show 16 * (t / 16) + t % 16 = t by omega] at h2
    exact h2
  rw [← hA]
  refine Exe.of_ev tok Tryz.call104 Tryz.func104 rfl rfl rfl ?_
  refine box_as H (bigC a) rfl fun pa w1 H1 => ?_
  refine alloc_as tok H1 (bigC [0, 0, 0, 0, 0, 0, 0, 0]) rfl rfl rfl fun r w2 H2 => ?_
  refine alloc_as tok H2 (bigC [0, 0, 0, 0, 0, 0, 0, 0]) rfl rfl rfl fun po w3 H3 => ?_
  have H3 : Hp ⟨w, M, I⟩ [blk po (bigC [0, 0, 0, 0, 0, 0, 0, 0]) 203, blk r (bigC [0, 0, 0, 0, 0, 0, 0, 0]) 203, blk pa (bigC a) 203] [] w3 := Hp.keep H3
  refine loop_rule tok (σ := Nat × List Nat × Nat) 281474976710528 (fun s => [(8, .int .i64 ((s.1 : Int) - 1)), (7, .int .u64 (s.2.2 : Int))]) (fun s w' => s.1 ≤ 128 ∧ DivI A n s.1 s.2.1 s.2.2 ∧ Hp ⟨w, M, I⟩ [blk po (bigC s.2.1) 203, blk r (bigC [0, 0, 0, 0, 0, 0, 0, 0]) 203, blk pa (bigC a) 203] [] w') (fun s => s.1) (128, [0, 0, 0, 0, 0, 0, 0, 0], 0) rfl rfl ⟨rfl, rfl, trivial⟩ ⟨Nat.le_refl _, DivI.start hA2, H3⟩ ?_
  intro s j w4 hW
  have h128 := hW.1
  have hI := hW.2.1
  have H4 := hW.2.2
  refine brd (fun q => ?_) (fun q => ?_)
  · have q : (0 : Int) ≤ (s.1 : Int) - 1 := q
    refine Exists.elim (show ∃ t, t + 1 = s.1 from ⟨s.1 - 1, by omega⟩) fun t ht => ?_
    have ez : (s.1 : Int) - 1 = (t : Int) := by omega
    have hI1 : DivI A n (t + 1) s.2.1 s.2.2 := ht ▸ hI
    have e16 : IntKind.i64.wrap (((s.1 : Int) - 1).tdiv 16) = ((t / 16 : Nat) : Int) := by rw [ez]; exact w64 (by show (-9223372036854775808 : Int) ≤ ((t / 16 : Nat) : Int); omega) (by show ((t / 16 : Nat) : Int) ≤ _; omega)
    have r16 : ((s.1 : Int) - 1).tmod 16 = ((t % 16 : Nat) : Int) := by rw [ez]; rfl
    have ew : IntKind.i64.wrap ((s.1 : Int) - 1 - 1) = (t : Int) - 1 := by rw [ez]; exact w64 (by omega) (by omega)
    have ht16 : t / 16 < 8 := by omega
    have hr16 : t % 16 < 16 := Nat.mod_lt _ (by decide)
    refine Exists.elim (get8 hl ht16) fun x hx => ?_
    refine Exists.elim (get8 hI1.len ht16) fun y hy => ?_
    have hxl := ha x (List.mem_of_getElem? hx)
    have hb := hbit t x hx
    have hxs : x / 2 ^ (t % 16) ≤ x := Nat.div_le_self _ _
    have ew2 : IntKind.u64.wrap ((x / 2 ^ (t % 16) : Nat) : Int) = ((x / 2 ^ (t % 16) : Nat) : Int) := u64s (by omega)
    have erb : (IntKind.u64.wrap ((x / 2 ^ (t % 16) : Nat) : Int)).tmod 2 = ((A / 2 ^ t % 2 : Nat) : Int) := by rw [ew2, ← hb]; rfl
    have hbl : A / 2 ^ t % 2 < 2 := Nat.mod_lt _ (by decide)
    have hll : s.2.2 < n := by rw [hI1.l]; exact Nat.mod_lt _ h0
    refine quo_as ((t / 16 : Nat) : Int) (by decide) e16 ?_
    refine arrIx_rule tok (t / 16) rfl rfl rfl (sz := 1) rfl ht16 ?_
    refine load_rule tok H4 (v := .int .u32 (x : Int)) (ldAt hx) ?_
    refine rem_as ((t % 16 : Nat) : Int) (by decide) r16 ?_
    refine shr_as ((x / 2 ^ (t % 16) : Nat) : Int) (by omega) (shr32 x (t % 16) hr16) ?_
    refine rem_as ((A / 2 ^ t % 2 : Nat) : Int) (by decide) erb ?_
    refine shl_as ((2 * s.2.2 : Nat) : Int) (by decide) (shl1 s.2.2 (by omega)) ?_
    refine or_as ((2 * s.2.2 + A / 2 ^ t % 2 : Nat) : Int) (or1 s.2.2 (A / 2 ^ t % 2) (by omega) hbl) ?_
    refine brd (fun q2 => ?_) (fun q2 => ?_)
    · have q2 : (9223372036854775808 : Int) ≤ (s.2.2 : Int) := q2
      omega
    refine brd (fun q3 => ?_) (fun q3 => ?_)
    · have q3 : (n : Int) ≤ ((2 * s.2.2 + A / 2 ^ t % 2 : Nat) : Int) := q3
      have q3' : n ≤ 2 * s.2.2 + A / 2 ^ t % 2 := by omega
      have hstep := hI1.yes h0 hy q3'
      refine Exists.elim (free_bit hI1.lt hI1.v hy) fun av hav => ?_
      have eor : IntKind.u32.wrap (BitVec.ofInt IntKind.u32.bits (y : Int) ||| BitVec.ofInt IntKind.u32.bits ((2 ^ (t % 16) : Nat) : Int)).toNat = ((y + 2 ^ (t % 16) : Nat) : Int) := by
        have h2 := hav.2
        rw [hav.1] at h2 ⊢
        exact or32 av (t % 16) h2
      have esub : IntKind.u64.wrap (((2 * s.2.2 + A / 2 ^ t % 2 : Nat) : Int) - (n : Int)) = ((2 * s.2.2 + A / 2 ^ t % 2 - n : Nat) : Int) := by rw [u64w]; omega
      refine draw_rule (A := [blk po (bigC s.2.1) 203]) tok tdr H4 [0, 1, 2, 3, 4, 5, 6, 7, 8, 9] [0, 1, 3, 7, 0, 16, 48, 127, 255, 511] rfl ?_
      refine pass_rule _ (fun w h => quo_as ((t / 16 : Nat) : Int) (by decide) e16 ⟨rfl, rfl⟩) ?_
      refine pass_rule _ (fun w h => arrIx_rule tok (t / 16) rfl rfl rfl (sz := 1) rfl ht16 ⟨rfl, rfl⟩) ?_
      refine pass_last _ rfl (fun X w h => load_rule tok h (v := .int .u32 (y : Int)) (ldAt hy) ⟨rfl, rfl⟩) ?_
      refine pass_rule _ (fun w h => rem_as ((t % 16 : Nat) : Int) (by decide) r16 ⟨rfl, rfl⟩) ?_
      refine pass_rule _ (fun w h => shl_as ((2 ^ (t % 16) : Nat) : Int) (by omega) (shl32 (t % 16) hr16) ⟨rfl, rfl⟩) ?_
      refine pass_rule _ (fun w h => or_as ((y + 2 ^ (t % 16) : Nat) : Int) eor ⟨rfl, rfl⟩) ?_
      refine pass_rule _ (fun w h => arrIx_rule tok (t / 16) rfl rfl rfl (sz := 1) rfl ht16 ⟨rfl, rfl⟩) ?_
      refine imp_rule (fun X wx h => store_as tok h (bigC (s.2.1.set (t / 16) (y + 2 ^ (t % 16)))) rfl rfl (bleB hI1.len ht16) rfl (stAt _ _ _ rfl) fun w1 H1 => imp_done H1 ?_)
      refine done_rule fun wb Hb => ?_
      exact Exists.intro (t, s.2.1.set (t / 16) (y + 2 ^ (t % 16)), 2 * s.2.2 + A / 2 ^ t % 2 - n) (And.intro ⟨congrArg (Value.int .i64) ew, congrArg (Value.int .u64) esub, trivial⟩ (And.intro (by show t < s.1; omega) ⟨by show t ≤ 128; omega, hstep, Hp.keep Hb⟩))
    · have q3 : ¬ (n : Int) ≤ ((2 * s.2.2 + A / 2 ^ t % 2 : Nat) : Int) := q3
      have hstep := hI1.no h0 (show ¬ n ≤ 2 * s.2.2 + A / 2 ^ t % 2 by omega)
      exact Exists.intro (t, s.2.1, 2 * s.2.2 + A / 2 ^ t % 2) (And.intro ⟨congrArg (Value.int .i64) ew, rfl, trivial⟩ (And.intro (by show t < s.1; omega) ⟨by show t ≤ 128; omega, hstep, H4⟩))
  · have q : ¬ (0 : Int) ≤ (s.1 : Int) - 1 := q
    have e0 : s.1 = 0 := by omega
    have hI0 : DivI A n 0 s.2.1 s.2.2 := e0 ▸ hI
    have hf := hI0.fin
    refine load_rule tok H4 (v := bigV s.2.1) (ldBig hI0.len) ?_
    refine store_as tok H4 (bigC s.2.1) rfl (bigHs hI0.len) (bigHl hI0.len rfl) (bigH1 hI0.len) (bigHc hI0.len rfl) fun wd Hd => ?_
    refine Exists.intro ⟨r, 0, none⟩ (Exists.intro (bigV s.2.1) (And.intro rfl (And.intro (Hp.ld (T := tb) tok Hd (ldBig hI0.len)) ?_)))
    exact Exists.intro s.2.1 (And.intro (congrArg (fun z : Nat => Value.tuple #[bigV s.2.1, .int .u64 (z : Int)]) hf.2) (And.intro ⟨hI0.len, hI0.lt, hf.1⟩ (Hp.keep Hd)))
/-! A word of it. -/
theorem val_drop {l : List Nat} {t x : Nat} (h : l[t]? = some x) : Pl.val (l.drop t) = x + 65536 * Pl.val (l.drop (t + 1)) := by
  have ht := (List.getElem?_eq_some_iff.1 h)
  obtain ⟨h1, h2⟩ := ht
  rw [List.drop_eq_getElem_cons h1, h2]; rfl
theorem val_drop_le : ∀ (l : List Nat) (t : Nat), Pl.val (l.drop t) ≤ Pl.val l
  | l, 0 => Nat.le_refl _
  | [], t + 1 => Nat.le_refl _
  | x :: l, t + 1 => by
    have := val_drop_le l t
    rw [List.drop_succ_cons, Pl.val]; omega
set_option maxHeartbeats 4000000 in
set_option maxRecDepth 20000 in
theorem refWordLo (l : List Nat) (hl : l.length = 8) (hv : Pl.val ((l.drop 0).take 4) < 18446744073709551616) : CB 106 [bigV l, .bool false] (.int .u64 ((Pl.val ((l.drop 0).take 4) : Nat) : Int)) := by
  intro w M I H
  obtain ⟨m, hm⟩ : ∃ m, m = (l.drop 0).take 4 := ⟨_, rfl⟩
  have lm : m.length = 4 := by rw [hm, List.length_take, List.length_drop]; omega
  have gm : ∀ t, t < 4 → ∀ x, m[t]? = some x → l[0 + t]? = some x := fun t ht x hx => by
    rw [hm, List.getElem?_take, if_pos ht, List.getElem?_drop] at hx
    exact hx
  rw [← hm] at hv ⊢
  refine Exe.of_ev tok Tryz.call106 Tryz.func106 rfl rfl rfl ?_
  refine box_as H (bigC l) rfl fun pa w1 H1 => ?_
  have H1 : Hp ⟨w, M, I⟩ [blk pa (bigC l) 203] [] w1 := Hp.keep H1
  refine loop_rule tok (σ := Nat) 4193984 (fun t => [(7, .int .i64 ((t : Int) - 1)), (6, .int .u64 ((Pl.val (m.drop t) : Nat) : Int))]) (fun t w' => t ≤ 4 ∧ Hp ⟨w, M, I⟩ [blk pa (bigC l) 203] [] w') (fun t => t) 4 rfl rfl ⟨rfl, congrArg (fun z : Nat => Value.int .u64 (z : Int)) (show 0 = Pl.val (m.drop 4) by rw [List.drop_eq_nil_of_le (by omega)]; rfl), trivial⟩ ⟨Nat.le_refl _, H1⟩ ?_
  intro s j w4 hW
  have h4 := hW.1
  have H4 := hW.2
  refine brd (fun q => ?_) (fun q => ?_)
  · have q : (0 : Int) ≤ (s : Int) - 1 := q
    refine Exists.elim (show ∃ t, t + 1 = s from ⟨s - 1, by omega⟩) fun t ht => ?_
    have ez : (s : Int) - 1 = (t : Int) := by omega
    refine Exists.elim (get8 lm (show t < 4 by omega)) fun x hx => ?_
    have hlx := gm t (by omega) x hx
    have e1 := val_drop hx
    have hle := val_drop_le m t
    rw [ht] at e1
    have ew : IntKind.i64.wrap ((s : Int) - 1 - 1) = (t : Int) - 1 := by rw [ez]; exact w64 (by omega) (by omega)
    have ei : IntKind.i64.wrap (0 + ((s : Int) - 1)) = ((0 + t : Nat) : Int) := by rw [ez]; exact w64 (by omega) (by omega)
    have ev : IntKind.u64.wrap (IntKind.u64.wrap (((Pl.val (m.drop s) : Nat) : Int) * 65536) + IntKind.u64.wrap (x : Int)) = ((Pl.val (m.drop t) : Nat) : Int) := by
      rw [u64w, u64w, u64w]; omega
    refine arrIx_rule tok (0 + t) ei rfl rfl (sz := 1) rfl (show 0 + t < 8 by omega) ?_
    refine load_rule tok H4 (v := .int .u32 (x : Int)) (ldAt hlx) ?_
    exact Exists.intro t (And.intro ⟨congrArg (Value.int .i64) ew, congrArg (Value.int .u64) ev, trivial⟩ (And.intro (by show t < s; omega) ⟨by omega, H4⟩))
  · have q : ¬ (0 : Int) ≤ (s : Int) - 1 := q
    have e0 : s = 0 := by omega
    exact Exists.intro () (And.intro (congrArg (fun z : Nat => Value.int .u64 (z : Int)) (show Pl.val (m.drop s) = Pl.val m by rw [e0, List.drop_zero])) (And.intro trivial (Hp.keep H4)))
set_option maxHeartbeats 4000000 in
set_option maxRecDepth 20000 in
theorem refWordHi (l : List Nat) (hl : l.length = 8) (hv : Pl.val ((l.drop 4).take 4) < 18446744073709551616) : CB 106 [bigV l, .bool true] (.int .u64 ((Pl.val ((l.drop 4).take 4) : Nat) : Int)) := by
  intro w M I H
  obtain ⟨m, hm⟩ : ∃ m, m = (l.drop 4).take 4 := ⟨_, rfl⟩
  have lm : m.length = 4 := by rw [hm, List.length_take, List.length_drop]; omega
  have gm : ∀ t, t < 4 → ∀ x, m[t]? = some x → l[4 + t]? = some x := fun t ht x hx => by
    rw [hm, List.getElem?_take, if_pos ht, List.getElem?_drop] at hx
    exact hx
  rw [← hm] at hv ⊢
  refine Exe.of_ev tok Tryz.call106 Tryz.func106 rfl rfl rfl ?_
  refine box_as H (bigC l) rfl fun pa w1 H1 => ?_
  have H1 : Hp ⟨w, M, I⟩ [blk pa (bigC l) 203] [] w1 := Hp.keep H1
  refine loop_rule tok (σ := Nat) 4193984 (fun t => [(7, .int .i64 ((t : Int) - 1)), (6, .int .u64 ((Pl.val (m.drop t) : Nat) : Int))]) (fun t w' => t ≤ 4 ∧ Hp ⟨w, M, I⟩ [blk pa (bigC l) 203] [] w') (fun t => t) 4 rfl rfl ⟨rfl, congrArg (fun z : Nat => Value.int .u64 (z : Int)) (show 0 = Pl.val (m.drop 4) by rw [List.drop_eq_nil_of_le (by omega)]; rfl), trivial⟩ ⟨Nat.le_refl _, H1⟩ ?_
  intro s j w4 hW
  have h4 := hW.1
  have H4 := hW.2
  refine brd (fun q => ?_) (fun q => ?_)
  · have q : (0 : Int) ≤ (s : Int) - 1 := q
    refine Exists.elim (show ∃ t, t + 1 = s from ⟨s - 1, by omega⟩) fun t ht => ?_
    have ez : (s : Int) - 1 = (t : Int) := by omega
    refine Exists.elim (get8 lm (show t < 4 by omega)) fun x hx => ?_
    have hlx := gm t (by omega) x hx
    have e1 := val_drop hx
    have hle := val_drop_le m t
    rw [ht] at e1
    have ew : IntKind.i64.wrap ((s : Int) - 1 - 1) = (t : Int) - 1 := by rw [ez]; exact w64 (by omega) (by omega)
    have ei : IntKind.i64.wrap (4 + ((s : Int) - 1)) = ((4 + t : Nat) : Int) := by rw [ez]; exact w64 (by omega) (by omega)
    have ev : IntKind.u64.wrap (IntKind.u64.wrap (((Pl.val (m.drop s) : Nat) : Int) * 65536) + IntKind.u64.wrap (x : Int)) = ((Pl.val (m.drop t) : Nat) : Int) := by
      rw [u64w, u64w, u64w]; omega
    refine arrIx_rule tok (4 + t) ei rfl rfl (sz := 1) rfl (show 4 + t < 8 by omega) ?_
    refine load_rule tok H4 (v := .int .u32 (x : Int)) (ldAt hlx) ?_
    exact Exists.intro t (And.intro ⟨congrArg (Value.int .i64) ew, congrArg (Value.int .u64) ev, trivial⟩ (And.intro (by show t < s; omega) ⟨by omega, H4⟩))
  · have q : ¬ (0 : Int) ≤ (s : Int) - 1 := q
    have e0 : s = 0 := by omega
    exact Exists.intro () (And.intro (congrArg (fun z : Nat => Value.int .u64 (z : Int)) (show Pl.val (m.drop s) = Pl.val m by rw [e0, List.drop_zero])) (And.intro trivial (Hp.keep H4)))
theorem words_of {l : List Nat} (hl : l.length = 8) (hlt : ∀ x, x ∈ l → x < 65536) (hv : Pl.val l < 18446744073709551616) : Pl.val ((l.drop 0).take 4) = Pl.val l ∧ Pl.val ((l.drop 4).take 4) = 0 := by
  have e : l = l.take 4 ++ l.drop 4 := (List.take_append_drop 4 l).symm
  have h1 := val_app (l.take 4) (l.drop 4)
  rw [← e, List.length_take, hl] at h1
  have h2 : (l.drop 4).take 4 = l.drop 4 := List.take_of_length_le (by rw [List.length_drop]; omega)
  rw [List.drop_zero, h2]
  have e4 : (65536 : Nat) ^ min 4 8 = 18446744073709551616 := by decide
  rw [e4] at h1
  omega
set_option maxHeartbeats 2000000 in
set_option maxRecDepth 20000 in
theorem refScale (a b c : Nat) (ha : a < 18446744073709551616) (hb : b < 18446744073709551616) (h0 : 0 < c) (hc : c ≤ 4611686018427387904) (hq : a * b / c < 18446744073709551616) : CB 179 [.int .u64 (a : Int), .int .u64 (b : Int), .int .u64 (c : Int)] (.tuple #[.int .u64 ((a * b / c : Nat) : Int), .int .u64 ((a * b % c : Nat) : Int), .int .i64 0]) := by
  intro w M I H
  refine Exe.of_ev tok Tryz.call179 Tryz.func179 rfl rfl rfl ?_
  refine br (fun q => ?_) (fun q => ?_)
  · have q : ((c : Int) == 0) = true := q
    simp at q; omega
  refine call_rule H (fun M I _ h => refMul a b ha hb _ M I h) fun m w1 hm H1 => ?_
  have hm1 := hm.1
  have hm2 := hm.2.1
  have hm3 := hm.2.2
  refine call_rule H1 (fun M I _ h => (show Ctr Tryz.prog 104 [bigV m, .int .u64 (c : Int)] _ M I (fun l : List Nat => .tuple #[bigV l, .int .u64 ((a * b % c : Nat) : Int)]) (fun l => l.length = 8 ∧ (∀ x, x ∈ l → x < 65536) ∧ Pl.val l = a * b / c) (fun _ => []) (fun _ => []) from hm3 ▸ refDiv m c hm1 hm2 h0 hc _ M I h)) fun l w2 hl H2 => ?_
  have hl1 := hl.1
  have hv : Pl.val l < 18446744073709551616 := by rw [hl.2.2]; exact hq
  have hw := words_of hl1 hl.2.1 hv
  refine alloc_as tok H2 (bigC [0, 0, 0, 0, 0, 0, 0, 0]) rfl rfl rfl fun p w3 H3 => ?_
  refine store_as tok H3 (bigC l) rfl (bigHs hl1) (bigHl hl1 rfl) (bigH1 hl1) (bigHc hl1 rfl) fun w4 H4 => ?_
  refine load_rule tok H4 (v := bigV l) (ldBig hl1) ?_
  refine call_rule H4 (fun M I _ h => (show Ctr Tryz.prog 106 [bigV l, .bool true] _ M I (fun _ : Unit => .int .u64 0) (fun _ => True) (fun _ => []) (fun _ => []) from (by
    have h1 := refWordHi l hl1 (by rw [hw.2]; decide) _ M I h
    rw [hw.2] at h1
    exact h1))) fun _ w5 _ H5 => ?_
  refine load_rule tok H5 (v := bigV l) (ldBig hl1) ?_
  refine call_rule H5 (fun M I _ h => (show Ctr Tryz.prog 106 [bigV l, .bool false] _ M I (fun _ : Unit => .int .u64 ((a * b / c : Nat) : Int)) (fun _ => True) (fun _ => []) (fun _ => []) from (by
    have h1 := refWordLo l hl1 (by rw [hw.1]; exact hv) _ M I h
    rw [hw.1, hl.2.2] at h1
    exact h1))) fun _ w6 _ H6 => ?_
  exact Exists.intro () (And.intro rfl (And.intro trivial (Hp.keep H6)))
@[reducible] def rrC (parts : Int) (b : Bool) : List Value := [.int .u32 parts, .bool b]
@[reducible] def rrV (parts : Int) (b : Bool) : Value := .agg #[.int .u32 parts, .bool b]
theorem iM_eq (p parts : Nat) : (if (6000000 : Nat) ≤ p * parts % 12000000 then p * parts / 12000000 + 1 else p * parts / 12000000) = monN parts p := by
  unfold monN roundN
  rw [← Nat.mul_assoc]
  exact round_month
/-- The document's interest of a month. -/
theorem refMonth (parts left : Int) (b : Bool) (h0 : 0 ≤ parts) (h1 : parts ≤ 1000000) (hl : 0 ≤ left) (hl2 : left ≤ 1000000000000) : CB 123 [rrV parts b, .int .i64 left] (.int .i64 (iM parts left)) := by
  intro w M I H
  obtain ⟨p, rfl⟩ : ∃ p : Nat, left = p := ⟨left.toNat, by omega⟩
  obtain ⟨t, rfl⟩ : ∃ t : Nat, parts = t := ⟨parts.toNat, by omega⟩
  have e1 : IntKind.u64.wrap (p : Int) = (p : Int) := u64n (by omega)
  have e2 : IntKind.u64.wrap (t : Int) = (t : Int) := u64n (by omega)
  have hpt : p * t ≤ 1000000000000 * 1000000 := Nat.mul_le_mul (by omega) (by omega)
  have hq : p * t / 12000000 ≤ 1000000000000 := Nat.div_le_of_le_mul (by omega)
  have cS : ∀ (w : World) (M I : BS), Hp ⟨w, M, I⟩ [] [] w → Ctr Tryz.prog 179 [.int .u64 (IntKind.u64.wrap (p : Int)), .int .u64 (IntKind.u64.wrap (t : Int)), .int .u64 12000000] w M I (fun _ : Unit => .tuple #[.int .u64 ((p * t / 12000000 : Nat) : Int), .int .u64 ((p * t % 12000000 : Nat) : Int), .int .i64 0]) (fun _ => True) (fun _ => []) (fun _ => []) := by
    rw [e1, e2]
    exact refScale p t 12000000 (by omega) (by omega) (by decide) (by decide) (by omega)
  refine Exe.of_ev tok Tryz.call123 Tryz.func123 rfl rfl rfl ?_
  refine box_as H (rrC t b) rfl fun r w1 H1 => ?_
  refine load_rule tok H1 (v := .int .u32 (t : Int)) rfl ?_
  refine call_rule H1 (fun M I _ h => cS _ M I h) fun _ w2 _ H2 => ?_
  have em := iM_eq p t
  have ei : iM (t : Int) (p : Int) = ((monN t p : Nat) : Int) := by unfold iM; rw [Int.toNat_natCast, Int.toNat_natCast]
  refine brd (fun q => ?_) (fun q => ?_)
  · have q : (6000000 : Int) ≤ ((p * t % 12000000 : Nat) : Int) := q
    have ew : IntKind.i64.wrap (IntKind.u64.wrap (((p * t / 12000000 : Nat) : Int) + 1)) = iM t p := by
      rw [ei, ← em, if_pos (by omega), u64w, w64 (by omega) (by omega)]; omega
    exact Exists.intro () (And.intro (congrArg (Value.int .i64) ew) (And.intro trivial (Hp.keep H2)))
  · have q : ¬ (6000000 : Int) ≤ ((p * t % 12000000 : Nat) : Int) := q
    have ew : IntKind.i64.wrap ((p * t / 12000000 : Nat) : Int) = iM t p := by
      rw [ei, ← em, if_neg (by omega), w64 (by omega) (by omega)]
    exact Exists.intro () (And.intro (congrArg (Value.int .i64) ew) (And.intro trivial (Hp.keep H2)))
end Go.Proofs.YtjlfjjgjghdokaaGreatDoor
set_option linter.unusedVariables false
namespace Go.Proofs.YtjlfjjgjghdokaaGreatDoor
open Go Go.Proofs Go.Wk Go.Pl
/-- What so many months of a payment leave. -/
def leftGo (parts pay : Int) : Nat → Int → Int
  | 0, l => l
  | k + 1, l => if 0 < l then (if l + iM parts l ≤ pay then 0 else if l ≤ l + iM parts l - pay then l else leftGo parts pay k (l + iM parts l - pay)) else l
theorem leftGo_en (parts pay : Int) : ∀ (k : Nat) (l : Int), 0 ≤ l → (leftGo parts pay k l == 0) = enGo parts pay k l
  | 0, l, h => by rw [leftGo, enGo]
  | k + 1, l, h => by
    rw [leftGo, enGo]
    by_cases h0 : l = 0
    · rw [if_neg (by omega), if_pos h0, h0]; rfl
    rw [if_pos (show 0 < l by omega), if_neg h0]
    by_cases h1 : l + iM parts l ≤ pay
    · rw [if_pos h1]
      have e : (mon3 parts l pay false).2.2 = 0 := by
        unfold mon3
        split
        · show l + iM parts l - (l + iM parts l) = 0; omega
        · rename_i h2
          have h2 : ¬ l + iM parts l < pay := fun e => h2 (.inr e)
          show l + iM parts l - pay = 0; omega
      rw [e, if_neg (by omega), enGo_zero]; rfl
    · rw [if_neg h1]
      have e : (mon3 parts l pay false).2.2 = l + iM parts l - pay := by
        unfold mon3
        rw [if_neg (by simp; omega)]
      rw [e]
      by_cases h2 : l ≤ l + iM parts l - pay
      · rw [if_pos h2, if_pos h2]
        simpa using h0
      · rw [if_neg h2, if_neg h2]
        exact leftGo_en parts pay k _ (by omega)
theorem iM_b {parts left : Int} (h0 : 0 ≤ parts) (h1 : parts ≤ 1000000) (hl : 0 ≤ left) (hl2 : left ≤ 1000000000000) : 0 ≤ iM parts left ∧ 12 * iM parts left ≤ left + 12 :=
  iM_bd (b := 1) (by simp only [rateB, Bool.and_eq_true, decide_eq_true_eq]; exact ⟨h1, by decide⟩) h0 hl hl2
set_option maxHeartbeats 1000000 in
theorem refLeft (p parts pay : Int) (b : Bool) (n : Nat) (hn : n ≤ 1000) (h0 : 0 ≤ parts) (h1 : parts ≤ 1000000) (hl : 0 ≤ p) (hl2 : p ≤ 1000000000000) (hp : 0 ≤ pay) (hp2 : pay ≤ 2000000000000) :
    CB 124 [.int .i64 p, rrV parts b, .int .i64 n, .int .i64 pay] (.int .i64 (leftGo parts pay n p)) := by
  intro w M I H
  refine Exe.of_ev tok Tryz.call124 Tryz.func124 rfl rfl rfl ?_
  refine box_as H (rrC parts b) rfl fun r w1 H1 => ?_
  refine loop_rule tok (σ := Nat × Int) 137438953217 (fun s => [(0, .int .i64 s.2), (9, .int .i64 (s.1 : Int))]) (fun s w' => s.1 ≤ n ∧ 0 ≤ s.2 ∧ s.2 ≤ 1000000000000 ∧ leftGo parts pay n p = leftGo parts pay (n - s.1) s.2 ∧ Hp ⟨w, M, I⟩ [blk r (rrC parts b) 51] [] w') (fun s => n - s.1) (0, p) rfl rfl ⟨rfl, rfl, trivial⟩ ⟨Nat.zero_le _, hl, hl2, rfl, H1⟩ ?_
  intro s j w2 hW
  have hi := hW.1
  have hs0 := hW.2.1
  have hs1 := hW.2.2.1
  have hg := hW.2.2.2.1
  have H2 := hW.2.2.2.2
  refine brd (fun hlt => ?_) (fun hge => ?_)
  · have ew : IntKind.i64.wrap ((s.1 : Int) + 1) = ((s.1 + 1 : Nat) : Int) := i64w (by omega) (by omega)
    have ek : n - s.1 = (n - (s.1 + 1)) + 1 := by omega
    have hb := iM_b h0 h1 hs0 hs1
    have eo : IntKind.i64.wrap (s.2 + iM parts s.2) = s.2 + iM parts s.2 := i64w (by omega) (by omega)
    have es : IntKind.i64.wrap (s.2 + iM parts s.2 - pay) = s.2 + iM parts s.2 - pay := i64w (by omega) (by omega)
    rw [ek, leftGo] at hg
    refine brd (fun hp0 => ?_) (fun hp0 => ?_)
    · have hp0 : 0 < s.2 := hp0
      rw [if_pos hp0] at hg
      refine load_rule tok H2 (v := rrV parts b) rfl ?_
      refine call_rule H2 (fun M I _ h => refMonth parts s.2 b h0 h1 hs0 hs1 _ M I h) fun _ w3 _ H3 => ?_
      refine brd (fun q => ?_) (fun q => ?_)
      · rw [eo] at q
        rw [if_pos q] at hg
        exact Exists.intro () (And.intro (congrArg (Value.int .i64) hg.symm) (And.intro trivial (Hp.keep H3)))
      rw [eo] at q
      rw [if_neg q] at hg
      refine brd (fun q2 => ?_) (fun q2 => ?_)
      · rw [eo, es] at q2
        rw [if_pos q2] at hg
        exact Exists.intro () (And.intro (congrArg (Value.int .i64) hg.symm) (And.intro trivial (Hp.keep H3)))
      rw [eo, es] at q2
      rw [if_neg q2] at hg
      exact Exists.intro (s.1 + 1, s.2 + iM parts s.2 - pay) (And.intro ⟨congrArg (Value.int .i64) ((congrArg (fun x => IntKind.i64.wrap (x - pay)) eo).trans es), congrArg (Value.int .i64) ew, trivial⟩ (And.intro (by show n - (s.1 + 1) < n - s.1; omega) ⟨by show s.1 + 1 ≤ n; omega, by show 0 ≤ s.2 + iM parts s.2 - pay; omega, by show s.2 + iM parts s.2 - pay ≤ 1000000000000; omega, hg, Hp.keep H3⟩))
    · have hp0 : ¬ 0 < s.2 := hp0
      rw [if_neg hp0] at hg
      exact Exists.intro () (And.intro (congrArg (Value.int .i64) hg.symm) (And.intro trivial (Hp.keep H2)))
  · have ek : n - s.1 = 0 := by omega
    rw [ek, leftGo] at hg
    exact Exists.intro () (And.intro (congrArg (Value.int .i64) hg.symm) (And.intro trivial (Hp.keep H2)))
/-! The rate. -/
theorem refRate (t : Tm) : CB 16 [rtV t] (rrV t.parts (t.basis == 2)) := by
  intro w M I H
  refine Exe.of_ev tok Tryz.call16 Tryz.func16 rfl rfl rfl ?_
  refine box_as H (rtC t) rfl fun r w1 H1 => ?_
  refine alloc_as tok H1 (rrC 0 false) rfl rfl rfl fun o w2 H2 => ?_
  refine load_rule tok H2 (v := .int .u32 t.parts) rfl ?_
  refine load_rule tok H2 (v := .int .u8 t.basis) rfl ?_
  refine store_as tok H2 (rrC t.parts (t.basis == 2)) rfl rfl rfl rfl rfl fun w3 H3 => ?_
  refine Exists.intro ⟨o, 0, none⟩ (Exists.intro (rrV t.parts (t.basis == 2)) (And.intro rfl (And.intro (Hp.ld (T := tb) tok H3 rfl) ?_)))
  exact Exists.intro () (And.intro rfl (And.intro trivial (Hp.keep H3)))
/-! The least payment. -/
set_option maxHeartbeats 2000000 in
theorem refPay (t : Tm) (hin : TmIn t) (ok : TmOk t) : CB 70 [rtV t] (.int .i64 (payV t.prin t.parts t.months.toNat)) := by
  intro w M I H
  have h0 := hin.parts.1
  have h0 : 0 ≤ t.parts := h0
  have h1 := ok.parts
  have hp1 := ok.prin.1
  have hp2 := ok.prin.2
  have hm1 := ok.months.1
  have hm2 := ok.months.2
  have em : ((t.months.toNat : Nat) : Int) = t.months := Int.toNat_of_nonneg (by omega)
  have hb := iM_b h0 h1 (show 0 ≤ t.prin by omega) hp2
  have eo : IntKind.i64.wrap (t.prin + iM t.parts t.prin) = t.prin + iM t.parts t.prin := i64w (by omega) (by omega)
  refine Exe.of_ev tok Tryz.call70 Tryz.func70 rfl rfl rfl ?_
  refine box_as H (rtC t) rfl fun r w1 H1 => ?_
  refine draw_rule (A := []) tok tdr H1 [2, 3, 4, 5, 6, 0, 1, 7, 8, 9] [0, 1, 0, 4, 0, 16, 60, 127, 124, 511] rfl ?_
  refine pass_rule _ (fun w h => load_rule tok h (v := rtV t) rfl ⟨rfl, rfl⟩) ?_
  refine imp_rule (fun X wx h => call_rule h (fun M I _ h => refRate t _ M I h) fun _ w1 _ H1 => imp_done H1 ?_)
  refine pass_rule _ (fun w h => load_rule tok h (v := .int .i64 t.prin) rfl ⟨rfl, rfl⟩) ?_
  refine imp_rule (fun X wx h => call_rule h (fun M I _ h => refMonth t.parts t.prin (t.basis == 2) h0 h1 (by omega) hp2 _ M I h) fun _ w1 _ H1 => imp_done H1 ?_)
  refine pass_rule _ (fun w h => load_rule tok h (v := .int .i64 t.prin) rfl ⟨rfl, rfl⟩) ?_
  refine done_rule fun w3 H3 => ?_
  refine loop_rule tok (σ := Int × Int × Nat) 8589918264 (fun s => [(3, .int .i64 s.1), (4, .int .i64 s.2.1)])
    (fun s w' => 1 ≤ s.1 ∧ s.2.1 ≤ 1100000000000 ∧ s.1 ≤ 1100000000001 ∧ s.2.1 - s.1 ≤ s.2.2 ∧ payV t.prin t.parts t.months.toNat = bsGo (fun m => enGo t.parts m t.months.toNat t.prin) s.2.2 s.1 s.2.1 ∧ Hp ⟨w, M, I⟩ [blk r (rtC t) 33] [] w') (fun s => s.2.2) (1, t.prin + iM t.parts t.prin, (t.prin + iM t.parts t.prin).toNat) rfl rfl ⟨rfl, congrArg (Value.int .i64) eo, trivial⟩
    ⟨by show (1 : Int) ≤ 1; omega, by show t.prin + iM t.parts t.prin ≤ 1100000000000; omega, by show (1 : Int) ≤ 1100000000001; omega, by show t.prin + iM t.parts t.prin - 1 ≤ ((t.prin + iM t.parts t.prin).toNat : Int); omega, rfl, Hp.keep H3⟩ ?_
  intro s j w4 hW
  have hs1 := hW.1
  have hs2 := hW.2.1
  have hs3 := hW.2.2.1
  have hs4 := hW.2.2.2.1
  have hg := hW.2.2.2.2.1
  have H4 := hW.2.2.2.2.2
  refine brd (fun hlt => ?_) (fun hge => ?_)
  · have ea : IntKind.i64.wrap (s.1 + s.2.1) = s.1 + s.2.1 := i64w (by omega) (by omega)
    have eq : IntKind.i64.wrap ((IntKind.i64.wrap (s.1 + s.2.1)).tdiv 2) = s.1 + (s.2.1 - s.1) / 2 := by rw [ea, Int.tdiv_eq_ediv_of_nonneg (by omega), show (s.1 + s.2.1) / 2 = s.1 + (s.2.1 - s.1) / 2 by omega]; exact i64w (by omega) (by omega)
    have em1 : IntKind.i64.wrap (s.1 + (s.2.1 - s.1) / 2 + 1) = s.1 + (s.2.1 - s.1) / 2 + 1 := i64w (by omega) (by omega)
    have ek : s.2.2 = (s.2.2 - 1) + 1 := by omega
    rw [ek, bsGo, if_pos hlt] at hg
    have hL := refLeft t.prin t.parts (s.1 + (s.2.1 - s.1) / 2) (t.basis == 2) t.months.toNat (by omega) h0 h1 (by omega) hp2 (by omega) (by omega)
    rw [em] at hL
    have hf := leftGo_en t.parts (s.1 + (s.2.1 - s.1) / 2) t.months.toNat t.prin (by omega)
    refine quo_as (s.1 + (s.2.1 - s.1) / 2) (by decide) eq ?_
    refine draw_rule (A := []) tok tdr H4 [2, 3, 0, 1, 4, 5, 6, 7, 8] [0, 1, 0, 4, 0, 16, 0, 127, 255] rfl ?_
    refine pass_rule _ (fun w h => load_rule tok h (v := rtV t) rfl ⟨rfl, rfl⟩) ?_
    refine imp_rule (fun X wx h => call_rule h (fun M I _ h => refRate t _ M I h) fun _ w1 _ H1 => imp_done H1 ?_)
    refine pass_rule _ (fun w h => load_rule tok h (v := .int .i64 t.prin) rfl ⟨rfl, rfl⟩) ?_
    refine pass_rule _ (fun w h => load_rule tok h (v := .int .i64 t.months) rfl ⟨rfl, rfl⟩) ?_
    refine imp_rule (fun X wx h => call_rule h (fun M I _ h => hL _ M I h) fun _ w1 _ H1 => imp_done H1 ?_)
    refine done_rule fun w5 H5 => ?_
    refine br (fun q => ?_) (fun q => ?_)
    · have q : (leftGo t.parts (s.1 + (s.2.1 - s.1) / 2) t.months.toNat t.prin == 0) = true := q
      rw [hf] at q
      rw [if_pos q] at hg
      exact Exists.intro (s.1, s.1 + (s.2.1 - s.1) / 2, s.2.2 - 1) (And.intro ⟨rfl, rfl, trivial⟩ (And.intro (by show s.2.2 - 1 < s.2.2; omega) ⟨hs1, by show s.1 + (s.2.1 - s.1) / 2 ≤ 1100000000000; omega, hs3, by show s.1 + (s.2.1 - s.1) / 2 - s.1 ≤ ((s.2.2 - 1 : Nat) : Int); omega, hg, Hp.keep H5⟩))
    · have q : (leftGo t.parts (s.1 + (s.2.1 - s.1) / 2) t.months.toNat t.prin == 0) = false := q
      rw [hf] at q
      rw [if_neg (by rw [q]; simp)] at hg
      exact Exists.intro (s.1 + (s.2.1 - s.1) / 2 + 1, s.2.1, s.2.2 - 1) (And.intro ⟨congrArg (Value.int .i64) em1, rfl, trivial⟩ (And.intro (by show s.2.2 - 1 < s.2.2; omega) ⟨by show 1 ≤ s.1 + (s.2.1 - s.1) / 2 + 1; omega, hs2, by show s.1 + (s.2.1 - s.1) / 2 + 1 ≤ 1100000000001; omega, by show s.2.1 - (s.1 + (s.2.1 - s.1) / 2 + 1) ≤ ((s.2.2 - 1 : Nat) : Int); omega, hg, Hp.keep H5⟩))
  · have e : payV t.prin t.parts t.months.toNat = s.1 := by
      rw [hg]
      cases s.2.2 with
      | zero => rfl
      | succ k => rw [bsGo, if_neg hge]
    exact Exists.intro () (And.intro (congrArg (Value.int .i64) e.symm) (And.intro trivial (Hp.keep H4)))
/-! Month by month. -/
theorem mon3_ref (parts left pay : Int) (all : Bool) : mon3 parts left pay all = (iM parts left, (if all = true ∨ left < pay - iM parts left then left else pay - iM parts left), left - (if all = true ∨ left < pay - iM parts left then left else pay - iM parts left)) := by
  unfold mon3
  by_cases h : all = true ∨ left + iM parts left < pay
  · rw [if_pos h, if_pos (by rcases h with h | h; exact .inl h; exact .inr (by omega))]
    refine Prod.ext rfl (Prod.ext ?_ ?_)
    · show left + iM parts left - iM parts left = left; omega
    · show left + iM parts left - (left + iM parts left) = left - left; omega
  · rw [if_neg h, if_neg (by intro h2; rcases h2 with h2 | h2; exact h (.inl h2); exact h (.inr (by omega)))]
    refine Prod.ext rfl (Prod.ext rfl ?_)
    show left + iM parts left - pay = left - (pay - iM parts left); omega
set_option maxRecDepth 20000 in
set_option maxHeartbeats 2000000 in
theorem refRowsOnly (p parts pay : Int) (b : Bool) (n : Nat) (hn : n ≤ 480) (h0 : 0 ≤ parts) (h1 : parts ≤ 1000000) (hJ0 : Jv 2 parts n p pay) (w : World) (M I : BS) (hM : ∀ b, ¬ M b) (H : Hp ⟨w, M, I⟩ [] [] w) :
    Ctr Tryz.prog 69 [.bool true, .int .i64 p, rrV parts b, .int .i64 n, .int .i64 pay] w M I (fun a : SV => .slice a.A a.n a.c) (fun _ => True) (fun _ => []) (fun a => [Sl row3R (.slice a.A a.n a.c) (rowsGo 2 parts n p pay)]) := by
  have hr : rateB parts 1 = true := by simp only [rateB, Bool.and_eq_true, decide_eq_true_eq]; exact ⟨h1, by decide⟩
  refine Exe.of_ev tok Tryz.call69 Tryz.func69 rfl rfl rfl ?_
  refine box_as H (rrC parts b) rfl fun r w1 H1 => ?_
  have H1 : Hp ⟨w, M, I⟩ [row 167 3 (.slice none 0 0) 0 (flatL row3C []), blk r (rrC parts b) 51] [] w1 := Hp.nil H1 167 3
  refine loop_rule tok (σ := Nat × List (Int × Int × Int) × Int × Int × SV) 1125899906840578 (fun s => [(1, .int .i64 s.2.2.1), (11, .slice s.2.2.2.2.A s.2.1.length s.2.2.2.2.c), (12, .int .i64 ((s.2.1.length : Int) + 1))])
    (fun s w' => s.2.1.length + s.1 = n ∧ rowsGo 2 parts n p pay = s.2.1 ++ rowsGo 2 parts s.1 s.2.2.1 s.2.2.2.1 ∧ (∀ x, x ∈ s.2.1 → r3ok x) ∧ Jv 2 parts s.1 s.2.2.1 s.2.2.2.1 ∧ Hp ⟨w, M, I⟩ [row 167 3 (.slice s.2.2.2.2.A s.2.1.length s.2.2.2.2.c) s.2.1.length (flatL row3C s.2.1), blk r (rrC parts b) 51] [] w') (fun s => s.1) (n, [], p, pay, ⟨none, 0, 0⟩) rfl rfl ⟨rfl, rfl, rfl, trivial⟩
    ⟨by simp, rfl, (fun x hx => by cases hx), hJ0, H1⟩ ?_
  intro s j w4 hW
  have hlen := hW.1
  have hg := hW.2.1
  have hok := hW.2.2.1
  have hJ := hW.2.2.2.1
  have H4 := hW.2.2.2.2
  refine brd (fun hlt => ?_) (fun hge => ?_)
  · have ek : s.1 = (s.1 - 1) + 1 := by omega
    have hJ := ek ▸ hJ
    have hst := Jv.step hr h0 hJ
    have hpb := hst.1
    have hl0 := hJ.l0
    have hl1 := hJ.l1
    have hp0 := hJ.p0
    have hp1 := hJ.p1
    have hb := iM_b h0 h1 hl0 hl1
    rw [ek, rowsGo] at hg
    have ew : IntKind.i64.wrap ((s.2.1.length : Int) + 1 + 1) = (((s.2.1.length + 1 : Nat) : Int) + 1) := by rw [i64w (by omega) (by omega)]; omega
    simp only [↓reduceIte] at hst hg hpb
    refine load_rule tok H4 (v := rrV parts b) rfl ?_
    refine call_rule H4 (fun M I _ h => refMonth parts s.2.2.1 b h0 h1 hl0 hl1 _ M I h) fun _ w5 _ H5 => ?_
    refine alloc_as tok H5 (row3C (0, 0, 0)) rfl rfl rfl fun o w5 H5 => ?_
    refine store_as tok H5 (row3C (iM parts s.2.2.1, 0, 0)) rfl rfl rfl rfl rfl fun w6 H6 => ?_
    refine load_rule tok H6 (v := .int .i64 (iM parts s.2.2.1)) rfl ?_
    refine br (fun q => ?_) (fun q => ?_)
    · have q : ((s.2.1.length : Int) + 1 == (n : Int)) = true := q
      have q : (s.2.1.length : Int) + 1 = (n : Int) := by simpa using q
      have e0 : s.1 - 1 = 0 := by omega
      have hP : (if (s.1 - 1 == 0) = true ∨ s.2.2.1 < (iM parts s.2.2.1) - iM parts s.2.2.1 then s.2.2.1 else (iM parts s.2.2.1) - iM parts s.2.2.1) = s.2.2.1 := if_pos (.inl (by rw [e0]; rfl))
      have hW3 : mon3 parts s.2.2.1 (iM parts s.2.2.1) (s.1 - 1 == 0) = (iM parts s.2.2.1, s.2.2.1, s.2.2.1 - s.2.2.1) := by rw [mon3_ref, hP]
      refine store_as tok H6 (row3C (iM parts s.2.2.1, s.2.2.1, 0)) rfl rfl rfl rfl rfl fun w7 H7 => ?_
      refine store_as tok H7 (row3C (iM parts s.2.2.1, s.2.2.1, IntKind.i64.wrap (s.2.2.1 - s.2.2.1))) rfl rfl rfl rfl rfl fun w8 H8 => ?_
      rw [i64w (n := s.2.2.1 - s.2.2.1) (by omega) (by omega)] at H8
      refine Exists.elim (⟨_, rfl⟩ : ∃ W, W = mon3 parts s.2.2.1 (iM parts s.2.2.1) (s.1 - 1 == 0)) fun W hWe => ?_
      rw [← hWe] at hst hg hW3
      have H8 : Hp ⟨w, M, I⟩ [blk o (row3C W) 167, row 167 3 (.slice s.2.2.2.2.A s.2.1.length s.2.2.2.2.c) s.2.1.length (flatL row3C s.2.1), blk r (rrC parts b) 51] [] w8 := by
        have H8 : Hp ⟨w, M, I⟩ [blk o (row3C (iM parts s.2.2.1, s.2.2.1, s.2.2.1 - s.2.2.1)) 167, row 167 3 (.slice s.2.2.2.2.A s.2.1.length s.2.2.2.2.c) s.2.1.length (flatL row3C s.2.1), blk r (rrC parts b) 51] [] w8 := Hp.keep H8
        rw [← hW3] at H8
        exact H8
      have hn1 : s.2.1.length + 1 ≤ 480 := by omega
      refine load_rule tok H8 (v := row3V W) rfl ?_
      refine slice_as tok H8 (row3C W) rfl rfl rfl rfl rfl rfl fun g w9 H9 => ?_
      refine append_rule (v := .slice s.2.2.2.2.A s.2.1.length s.2.2.2.2.c) (b := g) (m := 1) (c := 1) tok H9 rfl rfl rfl rfl rfl rfl rfl rfl (by show (s.2.1.length + 1) * 24 ≤ _; omega) (by omega) fun A2 c2 wa Ha => ?_
      refine load_rule tok Ha (v := .int .i64 W.2.2) rfl ?_
      have el : (s.2.1 ++ [W]).length = s.2.1.length + 1 := by simp
      have Hb : Hp ⟨w, M, I⟩ [row 167 3 (.slice A2 (s.2.1.length + 1) c2) (s.2.1.length + 1) (flatL row3C s.2.1 ++ row3C W), blk r (rrC parts b) 51] [] wa := Hp.keep Ha
      rw [← flatL_snoc, ← el] at Hb
      refine Exists.intro (s.1 - 1, s.2.1 ++ [W], W.2.2, (iM parts s.2.2.1), ⟨A2, 0, c2⟩) (And.intro ⟨rfl, congrArg (fun k => Value.slice A2 k c2) el.symm, congrArg (Value.int .i64) (by rw [ew, el]), trivial⟩ (And.intro (by show s.1 - 1 < s.1; omega) ⟨by show (s.2.1 ++ [W]).length + (s.1 - 1) = n; omega, ?_, ?_, hst.2.2, Hb⟩))
      · rw [hg]; simp
      · intro x hx
        rcases List.mem_append.1 hx with hx | hx
        · exact hok x hx
        · rw [List.mem_singleton] at hx
          rw [hx]; exact hst.2.1
    have q : ((s.2.1.length : Int) + 1 == (n : Int)) = false := q
    have q : ¬ (s.2.1.length : Int) + 1 = (n : Int) := by simpa using q
    have e0 : (s.1 - 1 == 0) = false := by rw [beq_eq_false_iff_ne]; omega
    refine brd (fun q2 => ?_) (fun q2 => ?_)
    · have q2 : s.2.2.1 < 0 := q2
      omega
    · have hP : (if (s.1 - 1 == 0) = true ∨ s.2.2.1 < iM parts s.2.2.1 - iM parts s.2.2.1 then s.2.2.1 else iM parts s.2.2.1 - iM parts s.2.2.1) = 0 := by rw [e0, if_neg (by simp; omega)]; omega
      have hW3 : mon3 parts s.2.2.1 (iM parts s.2.2.1) (s.1 - 1 == 0) = (iM parts s.2.2.1, 0, s.2.2.1 - 0) := by rw [mon3_ref, hP]
      refine store_as tok H6 (row3C (iM parts s.2.2.1, 0, 0)) rfl rfl rfl rfl rfl fun w7 H7 => ?_
      refine store_as tok H7 (row3C (iM parts s.2.2.1, 0, IntKind.i64.wrap (s.2.2.1 - 0))) rfl rfl rfl rfl rfl fun w8 H8 => ?_
      rw [i64w (n := s.2.2.1 - 0) (by omega) (by omega)] at H8
      refine Exists.elim (⟨_, rfl⟩ : ∃ W, W = mon3 parts s.2.2.1 (iM parts s.2.2.1) (s.1 - 1 == 0)) fun W hWe => ?_
      rw [← hWe] at hst hg hW3
      have H8 : Hp ⟨w, M, I⟩ [blk o (row3C W) 167, row 167 3 (.slice s.2.2.2.2.A s.2.1.length s.2.2.2.2.c) s.2.1.length (flatL row3C s.2.1), blk r (rrC parts b) 51] [] w8 := by
        have H8 : Hp ⟨w, M, I⟩ [blk o (row3C (iM parts s.2.2.1, 0, s.2.2.1 - 0)) 167, row 167 3 (.slice s.2.2.2.2.A s.2.1.length s.2.2.2.2.c) s.2.1.length (flatL row3C s.2.1), blk r (rrC parts b) 51] [] w8 := Hp.keep H8
        rw [← hW3] at H8
        exact H8
      have hn1 : s.2.1.length + 1 ≤ 480 := by omega
      refine load_rule tok H8 (v := row3V W) rfl ?_
      refine slice_as tok H8 (row3C W) rfl rfl rfl rfl rfl rfl fun g w9 H9 => ?_
      refine append_rule (v := .slice s.2.2.2.2.A s.2.1.length s.2.2.2.2.c) (b := g) (m := 1) (c := 1) tok H9 rfl rfl rfl rfl rfl rfl rfl rfl (by show (s.2.1.length + 1) * 24 ≤ _; omega) (by omega) fun A2 c2 wa Ha => ?_
      refine load_rule tok Ha (v := .int .i64 W.2.2) rfl ?_
      have el : (s.2.1 ++ [W]).length = s.2.1.length + 1 := by simp
      have Hb : Hp ⟨w, M, I⟩ [row 167 3 (.slice A2 (s.2.1.length + 1) c2) (s.2.1.length + 1) (flatL row3C s.2.1 ++ row3C W), blk r (rrC parts b) 51] [] wa := Hp.keep Ha
      rw [← flatL_snoc, ← el] at Hb
      refine Exists.intro (s.1 - 1, s.2.1 ++ [W], W.2.2, (iM parts s.2.2.1), ⟨A2, 0, c2⟩) (And.intro ⟨rfl, congrArg (fun k => Value.slice A2 k c2) el.symm, congrArg (Value.int .i64) (by rw [ew, el]), trivial⟩ (And.intro (by show s.1 - 1 < s.1; omega) ⟨by show (s.2.1 ++ [W]).length + (s.1 - 1) = n; omega, ?_, ?_, hst.2.2, Hb⟩))
      · rw [hg]; simp
      · intro x hx
        rcases List.mem_append.1 hx with hx | hx
        · exact hok x hx
        · rw [List.mem_singleton] at hx
          rw [hx]; exact hst.2.1
  · have e0 : s.1 = 0 := by omega
    have en : s.2.1.length = n := by omega
    rw [e0, rowsGo, List.append_nil] at hg
    have H5 := Hp.frzFlat (v := .slice s.2.2.2.2.A s.2.1.length s.2.2.2.2.c) H4 3 row3C (fun _ => rfl) r3ok hM (by decide) hok
    refine Exists.intro ⟨s.2.2.2.2.A, s.2.1.length, s.2.2.2.2.c⟩ (And.intro rfl (And.intro trivial ?_))
    rw [hg]
    exact Hp.keep H5
set_option maxRecDepth 20000 in
set_option maxHeartbeats 2000000 in
theorem refRowsLevel (p parts pay : Int) (b : Bool) (n : Nat) (hn : n ≤ 480) (h0 : 0 ≤ parts) (h1 : parts ≤ 1000000) (hJ0 : Jv 1 parts n p pay) (w : World) (M I : BS) (hM : ∀ b, ¬ M b) (H : Hp ⟨w, M, I⟩ [] [] w) :
    Ctr Tryz.prog 69 [.bool false, .int .i64 p, rrV parts b, .int .i64 n, .int .i64 pay] w M I (fun a : SV => .slice a.A a.n a.c) (fun _ => True) (fun _ => []) (fun a => [Sl row3R (.slice a.A a.n a.c) (rowsGo 1 parts n p pay)]) := by
  have hr : rateB parts 1 = true := by simp only [rateB, Bool.and_eq_true, decide_eq_true_eq]; exact ⟨h1, by decide⟩
  refine Exe.of_ev tok Tryz.call69 Tryz.func69 rfl rfl rfl ?_
  refine box_as H (rrC parts b) rfl fun r w1 H1 => ?_
  have H1 : Hp ⟨w, M, I⟩ [row 167 3 (.slice none 0 0) 0 (flatL row3C []), blk r (rrC parts b) 51] [] w1 := Hp.nil H1 167 3
  refine loop_rule tok (σ := Nat × List (Int × Int × Int) × Int × Int × SV) 1125899906840578 (fun s => [(1, .int .i64 s.2.2.1), (11, .slice s.2.2.2.2.A s.2.1.length s.2.2.2.2.c), (12, .int .i64 ((s.2.1.length : Int) + 1))])
    (fun s w' => s.2.1.length + s.1 = n ∧ rowsGo 1 parts n p pay = s.2.1 ++ rowsGo 1 parts s.1 s.2.2.1 pay ∧ (∀ x, x ∈ s.2.1 → r3ok x) ∧ Jv 1 parts s.1 s.2.2.1 pay ∧ Hp ⟨w, M, I⟩ [row 167 3 (.slice s.2.2.2.2.A s.2.1.length s.2.2.2.2.c) s.2.1.length (flatL row3C s.2.1), blk r (rrC parts b) 51] [] w') (fun s => s.1) (n, [], p, pay, ⟨none, 0, 0⟩) rfl rfl ⟨rfl, rfl, rfl, trivial⟩
    ⟨by simp, rfl, (fun x hx => by cases hx), hJ0, H1⟩ ?_
  intro s j w4 hW
  have hlen := hW.1
  have hg := hW.2.1
  have hok := hW.2.2.1
  have hJ := hW.2.2.2.1
  have H4 := hW.2.2.2.2
  refine brd (fun hlt => ?_) (fun hge => ?_)
  · have ek : s.1 = (s.1 - 1) + 1 := by omega
    have hJ := ek ▸ hJ
    have hst := Jv.step hr h0 hJ
    have hpb := hst.1
    have hl0 := hJ.l0
    have hl1 := hJ.l1
    have hp0 := hJ.p0
    have hp1 := hJ.p1
    have hb := iM_b h0 h1 hl0 hl1
    rw [ek, rowsGo] at hg
    have ew : IntKind.i64.wrap ((s.2.1.length : Int) + 1 + 1) = (((s.2.1.length + 1 : Nat) : Int) + 1) := by rw [i64w (by omega) (by omega)]; omega
    simp only [if_neg (show ¬ (1 : Int) = 2 by decide)] at hst hg hpb
    refine load_rule tok H4 (v := rrV parts b) rfl ?_
    refine call_rule H4 (fun M I _ h => refMonth parts s.2.2.1 b h0 h1 hl0 hl1 _ M I h) fun _ w5 _ H5 => ?_
    refine alloc_as tok H5 (row3C (0, 0, 0)) rfl rfl rfl fun o w5 H5 => ?_
    refine store_as tok H5 (row3C (iM parts s.2.2.1, 0, 0)) rfl rfl rfl rfl rfl fun w6 H6 => ?_
    refine load_rule tok H6 (v := .int .i64 (iM parts s.2.2.1)) rfl ?_
    have epi : IntKind.i64.wrap (pay - iM parts s.2.2.1) = pay - iM parts s.2.2.1 := i64w (by omega) (by omega)
    refine br (fun q => ?_) (fun q => ?_)
    · have q : ((s.2.1.length : Int) + 1 == (n : Int)) = true := q
      have q : (s.2.1.length : Int) + 1 = (n : Int) := by simpa using q
      have e0 : s.1 - 1 = 0 := by omega
      have hP : (if (s.1 - 1 == 0) = true ∨ s.2.2.1 < pay - iM parts s.2.2.1 then s.2.2.1 else pay - iM parts s.2.2.1) = s.2.2.1 := if_pos (.inl (by rw [e0]; rfl))
      have hW3 : mon3 parts s.2.2.1 pay (s.1 - 1 == 0) = (iM parts s.2.2.1, s.2.2.1, s.2.2.1 - s.2.2.1) := by rw [mon3_ref, hP]
      refine store_as tok H6 (row3C (iM parts s.2.2.1, s.2.2.1, 0)) rfl rfl rfl rfl rfl fun w7 H7 => ?_
      refine store_as tok H7 (row3C (iM parts s.2.2.1, s.2.2.1, IntKind.i64.wrap (s.2.2.1 - s.2.2.1))) rfl rfl rfl rfl rfl fun w8 H8 => ?_
      rw [i64w (n := s.2.2.1 - s.2.2.1) (by omega) (by omega)] at H8
      refine Exists.elim (⟨_, rfl⟩ : ∃ W, W = mon3 parts s.2.2.1 pay (s.1 - 1 == 0)) fun W hWe => ?_
      rw [← hWe] at hst hg hW3
      have H8 : Hp ⟨w, M, I⟩ [blk o (row3C W) 167, row 167 3 (.slice s.2.2.2.2.A s.2.1.length s.2.2.2.2.c) s.2.1.length (flatL row3C s.2.1), blk r (rrC parts b) 51] [] w8 := by
        have H8 : Hp ⟨w, M, I⟩ [blk o (row3C (iM parts s.2.2.1, s.2.2.1, s.2.2.1 - s.2.2.1)) 167, row 167 3 (.slice s.2.2.2.2.A s.2.1.length s.2.2.2.2.c) s.2.1.length (flatL row3C s.2.1), blk r (rrC parts b) 51] [] w8 := Hp.keep H8
        rw [← hW3] at H8
        exact H8
      have hn1 : s.2.1.length + 1 ≤ 480 := by omega
      refine load_rule tok H8 (v := row3V W) rfl ?_
      refine slice_as tok H8 (row3C W) rfl rfl rfl rfl rfl rfl fun g w9 H9 => ?_
      refine append_rule (v := .slice s.2.2.2.2.A s.2.1.length s.2.2.2.2.c) (b := g) (m := 1) (c := 1) tok H9 rfl rfl rfl rfl rfl rfl rfl rfl (by show (s.2.1.length + 1) * 24 ≤ _; omega) (by omega) fun A2 c2 wa Ha => ?_
      refine load_rule tok Ha (v := .int .i64 W.2.2) rfl ?_
      have el : (s.2.1 ++ [W]).length = s.2.1.length + 1 := by simp
      have Hb : Hp ⟨w, M, I⟩ [row 167 3 (.slice A2 (s.2.1.length + 1) c2) (s.2.1.length + 1) (flatL row3C s.2.1 ++ row3C W), blk r (rrC parts b) 51] [] wa := Hp.keep Ha
      rw [← flatL_snoc, ← el] at Hb
      refine Exists.intro (s.1 - 1, s.2.1 ++ [W], W.2.2, pay, ⟨A2, 0, c2⟩) (And.intro ⟨rfl, congrArg (fun k => Value.slice A2 k c2) el.symm, congrArg (Value.int .i64) (by rw [ew, el]), trivial⟩ (And.intro (by show s.1 - 1 < s.1; omega) ⟨by show (s.2.1 ++ [W]).length + (s.1 - 1) = n; omega, ?_, ?_, hst.2.2, Hb⟩))
      · rw [hg]; simp
      · intro x hx
        rcases List.mem_append.1 hx with hx | hx
        · exact hok x hx
        · rw [List.mem_singleton] at hx
          rw [hx]; exact hst.2.1
    have q : ((s.2.1.length : Int) + 1 == (n : Int)) = false := q
    have q : ¬ (s.2.1.length : Int) + 1 = (n : Int) := by simpa using q
    have e0 : (s.1 - 1 == 0) = false := by rw [beq_eq_false_iff_ne]; omega
    refine brd (fun q2 => ?_) (fun q2 => ?_)
    · rw [epi] at q2
      have hP : (if (s.1 - 1 == 0) = true ∨ s.2.2.1 < pay - iM parts s.2.2.1 then s.2.2.1 else pay - iM parts s.2.2.1) = s.2.2.1 := if_pos (.inr q2)
      have hW3 : mon3 parts s.2.2.1 pay (s.1 - 1 == 0) = (iM parts s.2.2.1, s.2.2.1, s.2.2.1 - s.2.2.1) := by rw [mon3_ref, hP]
      refine store_as tok H6 (row3C (iM parts s.2.2.1, s.2.2.1, 0)) rfl rfl rfl rfl rfl fun w7 H7 => ?_
      refine store_as tok H7 (row3C (iM parts s.2.2.1, s.2.2.1, IntKind.i64.wrap (s.2.2.1 - s.2.2.1))) rfl rfl rfl rfl rfl fun w8 H8 => ?_
      rw [i64w (n := s.2.2.1 - s.2.2.1) (by omega) (by omega)] at H8
      refine Exists.elim (⟨_, rfl⟩ : ∃ W, W = mon3 parts s.2.2.1 pay (s.1 - 1 == 0)) fun W hWe => ?_
      rw [← hWe] at hst hg hW3
      have H8 : Hp ⟨w, M, I⟩ [blk o (row3C W) 167, row 167 3 (.slice s.2.2.2.2.A s.2.1.length s.2.2.2.2.c) s.2.1.length (flatL row3C s.2.1), blk r (rrC parts b) 51] [] w8 := by
        have H8 : Hp ⟨w, M, I⟩ [blk o (row3C (iM parts s.2.2.1, s.2.2.1, s.2.2.1 - s.2.2.1)) 167, row 167 3 (.slice s.2.2.2.2.A s.2.1.length s.2.2.2.2.c) s.2.1.length (flatL row3C s.2.1), blk r (rrC parts b) 51] [] w8 := Hp.keep H8
        rw [← hW3] at H8
        exact H8
      have hn1 : s.2.1.length + 1 ≤ 480 := by omega
      refine load_rule tok H8 (v := row3V W) rfl ?_
      refine slice_as tok H8 (row3C W) rfl rfl rfl rfl rfl rfl fun g w9 H9 => ?_
      refine append_rule (v := .slice s.2.2.2.2.A s.2.1.length s.2.2.2.2.c) (b := g) (m := 1) (c := 1) tok H9 rfl rfl rfl rfl rfl rfl rfl rfl (by show (s.2.1.length + 1) * 24 ≤ _; omega) (by omega) fun A2 c2 wa Ha => ?_
      refine load_rule tok Ha (v := .int .i64 W.2.2) rfl ?_
      have el : (s.2.1 ++ [W]).length = s.2.1.length + 1 := by simp
      have Hb : Hp ⟨w, M, I⟩ [row 167 3 (.slice A2 (s.2.1.length + 1) c2) (s.2.1.length + 1) (flatL row3C s.2.1 ++ row3C W), blk r (rrC parts b) 51] [] wa := Hp.keep Ha
      rw [← flatL_snoc, ← el] at Hb
      refine Exists.intro (s.1 - 1, s.2.1 ++ [W], W.2.2, pay, ⟨A2, 0, c2⟩) (And.intro ⟨rfl, congrArg (fun k => Value.slice A2 k c2) el.symm, congrArg (Value.int .i64) (by rw [ew, el]), trivial⟩ (And.intro (by show s.1 - 1 < s.1; omega) ⟨by show (s.2.1 ++ [W]).length + (s.1 - 1) = n; omega, ?_, ?_, hst.2.2, Hb⟩))
      · rw [hg]; simp
      · intro x hx
        rcases List.mem_append.1 hx with hx | hx
        · exact hok x hx
        · rw [List.mem_singleton] at hx
          rw [hx]; exact hst.2.1
    · rw [epi] at q2 ⊢
      have hP : (if (s.1 - 1 == 0) = true ∨ s.2.2.1 < pay - iM parts s.2.2.1 then s.2.2.1 else pay - iM parts s.2.2.1) = (pay - iM parts s.2.2.1) := if_neg (by rw [e0]; simp; omega)
      have hW3 : mon3 parts s.2.2.1 pay (s.1 - 1 == 0) = (iM parts s.2.2.1, (pay - iM parts s.2.2.1), s.2.2.1 - (pay - iM parts s.2.2.1)) := by rw [mon3_ref, hP]
      refine store_as tok H6 (row3C (iM parts s.2.2.1, (pay - iM parts s.2.2.1), 0)) rfl rfl rfl rfl rfl fun w7 H7 => ?_
      refine store_as tok H7 (row3C (iM parts s.2.2.1, (pay - iM parts s.2.2.1), IntKind.i64.wrap (s.2.2.1 - (pay - iM parts s.2.2.1)))) rfl rfl rfl rfl rfl fun w8 H8 => ?_
      rw [i64w (n := s.2.2.1 - (pay - iM parts s.2.2.1)) (by omega) (by omega)] at H8
      refine Exists.elim (⟨_, rfl⟩ : ∃ W, W = mon3 parts s.2.2.1 pay (s.1 - 1 == 0)) fun W hWe => ?_
      rw [← hWe] at hst hg hW3
      have H8 : Hp ⟨w, M, I⟩ [blk o (row3C W) 167, row 167 3 (.slice s.2.2.2.2.A s.2.1.length s.2.2.2.2.c) s.2.1.length (flatL row3C s.2.1), blk r (rrC parts b) 51] [] w8 := by
        have H8 : Hp ⟨w, M, I⟩ [blk o (row3C (iM parts s.2.2.1, (pay - iM parts s.2.2.1), s.2.2.1 - (pay - iM parts s.2.2.1))) 167, row 167 3 (.slice s.2.2.2.2.A s.2.1.length s.2.2.2.2.c) s.2.1.length (flatL row3C s.2.1), blk r (rrC parts b) 51] [] w8 := Hp.keep H8
        rw [← hW3] at H8
        exact H8
      have hn1 : s.2.1.length + 1 ≤ 480 := by omega
      refine load_rule tok H8 (v := row3V W) rfl ?_
      refine slice_as tok H8 (row3C W) rfl rfl rfl rfl rfl rfl fun g w9 H9 => ?_
      refine append_rule (v := .slice s.2.2.2.2.A s.2.1.length s.2.2.2.2.c) (b := g) (m := 1) (c := 1) tok H9 rfl rfl rfl rfl rfl rfl rfl rfl (by show (s.2.1.length + 1) * 24 ≤ _; omega) (by omega) fun A2 c2 wa Ha => ?_
      refine load_rule tok Ha (v := .int .i64 W.2.2) rfl ?_
      have el : (s.2.1 ++ [W]).length = s.2.1.length + 1 := by simp
      have Hb : Hp ⟨w, M, I⟩ [row 167 3 (.slice A2 (s.2.1.length + 1) c2) (s.2.1.length + 1) (flatL row3C s.2.1 ++ row3C W), blk r (rrC parts b) 51] [] wa := Hp.keep Ha
      rw [← flatL_snoc, ← el] at Hb
      refine Exists.intro (s.1 - 1, s.2.1 ++ [W], W.2.2, pay, ⟨A2, 0, c2⟩) (And.intro ⟨rfl, congrArg (fun k => Value.slice A2 k c2) el.symm, congrArg (Value.int .i64) (by rw [ew, el]), trivial⟩ (And.intro (by show s.1 - 1 < s.1; omega) ⟨by show (s.2.1 ++ [W]).length + (s.1 - 1) = n; omega, ?_, ?_, hst.2.2, Hb⟩))
      · rw [hg]; simp
      · intro x hx
        rcases List.mem_append.1 hx with hx | hx
        · exact hok x hx
        · rw [List.mem_singleton] at hx
          rw [hx]; exact hst.2.1
  · have e0 : s.1 = 0 := by omega
    have en : s.2.1.length = n := by omega
    rw [e0, rowsGo, List.append_nil] at hg
    have H5 := Hp.frzFlat (v := .slice s.2.2.2.2.A s.2.1.length s.2.2.2.2.c) H4 3 row3C (fun _ => rfl) r3ok hM (by decide) hok
    refine Exists.intro ⟨s.2.2.2.2.A, s.2.1.length, s.2.2.2.2.c⟩ (And.intro rfl (And.intro trivial ?_))
    rw [hg]
    exact Hp.keep H5
end Go.Proofs.YtjlfjjgjghdokaaGreatDoor
