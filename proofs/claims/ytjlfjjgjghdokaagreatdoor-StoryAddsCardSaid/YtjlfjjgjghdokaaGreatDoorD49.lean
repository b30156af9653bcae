/- The document's product, division, month's interest: the walks. Printed by gen49.py. -/
import Derived.Test.YtjlfjjgjghdokaaGreatDoorD48
import Derived.Test.YtjlfjjgjghdokaaGreatDoorG6
set_option linter.unusedVariables false
namespace Go.Proofs.YtjlfjjgjghdokaaGreatDoor
open Go Go.Proofs Go.Wk Go.Pl
@[reducible] def bigC (l : List Nat) : List Value := l.map fun x : Nat => Value.int .u32 (x : Int)
@[reducible] def bigV (l : List Nat) : Value := .agg (bigC l).toArray
@[reducible] def wC (l : List Nat) : List Value := l.map fun x : Nat => Value.int .u64 (x : Int)
theorem ldAt {l : List Nat} {k x : Nat} (h : l[k]? = some x) : ldV (tb 23) (bigC l) (0 + k * 1) = some (.int .u32 (x : Int)) := by
  rw [Nat.zero_add, Nat.mul_one]
  show (bigC l)[k]? = _
  rw [List.getElem?_map, h]; rfl
theorem ldAtW {l : List Nat} {k x : Nat} (h : l[k]? = some x) : ldV (tb 42) (wC l) (0 + k * 1) = some (.int .u64 (x : Int)) := by
  rw [Nat.zero_add, Nat.mul_one]
  show (wC l)[k]? = _
  rw [List.getElem?_map, h]; rfl
theorem stAt (l : List Nat) (k v : Nat) {u : Int} (hu : u = (v : Int)) : setL (bigC l) (0 + k * 1) [.int .u32 u] = bigC (l.set k v) := by
  subst hu
  rw [Nat.zero_add, Nat.mul_one]
  show (bigC l).set k _ = _
  simp [bigC, List.map_set]
theorem stAtW (l : List Nat) (k v : Nat) {u : Int} (hu : u = (v : Int)) : setL (wC l) (0 + k * 1) [.int .u64 u] = wC (l.set k v) := by
  subst hu
  rw [Nat.zero_add, Nat.mul_one]
  show (wC l).set k _ = _
  simp [wC, List.map_set]
theorem bleB {l : List Nat} {k n : Nat} (hl : l.length = n) (h : k < n) : Nat.ble (0 + k * 1 + 1) (bigC l).length = true := by
  rw [List.length_map, hl]; exact Nat.ble_eq_true_of_le (by omega)
theorem bleW {l : List Nat} {k n : Nat} (hl : l.length = n) (h : k < n) : Nat.ble (0 + k * 1 + 1) (wC l).length = true := by
  rw [List.length_map, hl]; exact Nat.ble_eq_true_of_le (by omega)
theorem ldBig : ∀ {l : List Nat}, l.length = 8 → ldV (tb 203) (bigC l) 0 = some (bigV l)
  | [_, _, _, _, _, _, _, _], _ => rfl
theorem bigHs : ∀ {l : List Nat}, l.length = 8 → Nat.beq (bigV l).cells.toList.length 8 = true
  | [_, _, _, _, _, _, _, _], _ => rfl
theorem bigHl : ∀ {l z : List Nat}, l.length = 8 → z.length = 8 → Nat.ble (0 + (bigV l).cells.toList.length) (bigC z).length = true
  | [_, _, _, _, _, _, _, _], [_, _, _, _, _, _, _, _], _, _ => rfl
theorem bigH1 : ∀ {l : List Nat}, l.length = 8 → allOne (bigV l).cells.toList = true
  | [_, _, _, _, _, _, _, _], _ => rfl
theorem bigHc : ∀ {l z : List Nat}, l.length = 8 → z.length = 8 → setL (bigC z) 0 (bigV l).cells.toList = bigC l
  | [_, _, _, _, _, _, _, _], [_, _, _, _, _, _, _, _], _, _ => rfl
theorem bigCells (l : List Nat) : (bigV l).cells.toList = bigC l := rfl
theorem u32d (x : Nat) : IntKind.u32.wrap ((x % 65536 : Nat) : Int) = ((x % 65536 : Nat) : Int) := wrap_id ⟨by show (0 : Int) ≤ _; omega, by show _ ≤ (4294967295 : Int); omega⟩
theorem u64s {x : Nat} (h : x < 65536) : IntKind.u64.wrap (x : Int) = (x : Int) := u64n (by omega)
theorem get8 {l : List Nat} {n k : Nat} (hl : l.length = n) (h : k < n) : ∃ x, l[k]? = some x := ⟨_, List.getElem?_eq_getElem (by omega)⟩
set_option maxHeartbeats 2000000 in
set_option maxRecDepth 20000 in
theorem refOf (hi lo : Nat) (hh : hi < 18446744073709551616) (hl : lo < 18446744073709551616) : CB 103 [.int .u64 hi, .int .u64 lo] (bigV (ofL hi lo)) := by
  intro w M I H
  refine Exe.of_ev tok Tryz.call103 Tryz.func103 rfl rfl rfl ?_
  refine alloc_as tok H (bigC [0, 0, 0, 0, 0, 0, 0, 0]) rfl rfl rfl fun r w1 H1 => ?_
  refine alloc_as tok H1 (bigC [0, 0, 0, 0, 0, 0, 0, 0]) rfl rfl rfl fun b w2 H2 => ?_
  have H2 : Hp ⟨w, M, I⟩ [blk b (bigC (ofAt hi lo 0)) 203, blk r (bigC [0, 0, 0, 0, 0, 0, 0, 0]) 203] [] w2 := H2
  refine loop_rule tok (σ := Nat) 67108803 (fun i => [(6, .int .i64 (i : Int)), (1, .int .u64 ((itd lo i : Nat) : Int)), (0, .int .u64 ((itd hi i : Nat) : Int))]) (fun i w' => i ≤ 4 ∧ Hp ⟨w, M, I⟩ [blk b (bigC (ofAt hi lo i)) 203, blk r (bigC [0, 0, 0, 0, 0, 0, 0, 0]) 203] [] w') (fun i => 4 - i) 0 rfl rfl ⟨rfl, rfl, rfl, trivial⟩ ⟨Nat.zero_le _, H2⟩ ?_
  intro i j w3 hW
  have hi4 := hW.1
  have H3 := hW.2
  refine brd (fun q => ?_) (fun q => ?_)
  · have q : (i : Int) < 4 := q
    have q' : i < 4 := by omega
    have ew : IntKind.i64.wrap ((i : Int) + 1) = ((i + 1 : Nat) : Int) := w64 (by omega) (by omega)
    have ew4 : IntKind.i64.wrap ((i : Int) + 4) = ((i + 4 : Nat) : Int) := w64 (by omega) (by omega)
    have e1 : IntKind.u64.wrap ((((itd lo i : Nat) : Int)).tdiv 65536) = ((itd lo (i + 1) : Nat) : Int) := u64n (Nat.lt_of_le_of_lt (itd_le lo (i + 1)) hl)
    have e2 : IntKind.u64.wrap ((((itd hi i : Nat) : Int)).tdiv 65536) = ((itd hi (i + 1) : Nat) : Int) := u64n (Nat.lt_of_le_of_lt (itd_le hi (i + 1)) hh)
    have hlen := ofAt_len hi lo i hi4
    refine rem_as ((itd lo i % 65536 : Nat) : Int) (by decide) rfl ?_
    refine rem_as ((itd hi i % 65536 : Nat) : Int) (by decide) rfl ?_
    refine arrIx_rule tok i rfl rfl rfl (sz := 1) rfl (show i < 8 by omega) ?_
    refine store_as tok H3 (bigC ((ofAt hi lo i).set i (itd lo i % 65536))) rfl rfl (bleB hlen (by omega)) rfl (stAt _ _ _ (u32d _)) fun w4 H4 => ?_
    refine arrIx_rule tok (i + 4) ew4 rfl rfl (sz := 1) rfl (show i + 4 < 8 by omega) ?_
    refine store_as tok H4 (bigC (((ofAt hi lo i).set i (itd lo i % 65536)).set (i + 4) (itd hi i % 65536))) rfl rfl (bleB (n := 8) (by rw [List.length_set]; exact hlen) (by omega)) rfl (stAt _ _ _ (u32d _)) fun w5 H5 => ?_
    rw [ofAt_step hi lo i q'] at H5
    refine quo_as ((itd lo (i + 1) : Nat) : Int) (by decide) e1 ?_
    refine quo_as ((itd hi (i + 1) : Nat) : Int) (by decide) e2 ?_
    exact Exists.intro (i + 1) (And.intro ⟨congrArg (Value.int .i64) ew, rfl, rfl, trivial⟩ (And.intro (by show 4 - (i + 1) < 4 - i; omega) ⟨by omega, H5⟩))
  · have q : ¬ (i : Int) < 4 := q
    have e4 : ofAt hi lo i = ofL hi lo := by
      have : i = 4 := by omega
      rw [this]; exact ofAt_end hi lo
    rw [e4] at H3
    have hlen := ofL_len hi lo
    refine load_rule tok H3 (v := bigV (ofL hi lo)) (ldBig hlen) ?_
    refine store_as tok H3 (bigC (ofL hi lo)) rfl (bigHs hlen) (bigHl hlen rfl) (bigH1 hlen) (bigHc hlen rfl) fun w4 H4 => ?_
    refine Exists.intro ⟨r, 0, none⟩ (Exists.intro (bigV (ofL hi lo)) (And.intro rfl (And.intro (Hp.ld (T := tb) tok H4 (ldBig hlen)) ?_)))
    exact Exists.intro () (And.intro rfl (And.intro trivial (Hp.keep H4)))
theorem mulw {x y : Nat} (hx : x < 65536) (hy : y < 65536) : IntKind.u64.wrap (IntKind.u64.wrap (x : Int) * IntKind.u64.wrap (y : Int)) = ((x * y : Nat) : Int) := by
  have h : x * y ≤ 65535 * 65535 := Nat.mul_le_mul (Nat.le_of_lt_succ hx) (Nat.le_of_lt_succ hy)
  rw [u64s hx, u64s hy, ← Int.natCast_mul]
  exact u64n (Nat.lt_of_le_of_lt h (by decide))
theorem addw {x y : Nat} (hx : x ≤ 2000000) (hy : y < 65536) : IntKind.u64.wrap ((x : Int) + (y : Int)) = ((x + y : Nat) : Int) := by
  rw [← Int.natCast_add]
  exact u64n (by omega)
theorem ofX (a : Nat) (i : Nat) (h : i < 4) : ∃ x, (ofL 0 a)[i]? = some x ∧ x < 65536 := by
  obtain ⟨x, hx⟩ := get8 (ofL_len 0 a) (show i < 8 by omega)
  exact ⟨x, hx, ofL_lt 0 a x (List.mem_of_getElem? hx)⟩
theorem ofL_val {a : Nat} (h : a < 18446744073709551616) : val ((ofL 0 a).take 4) = a := by
  have e : (ofL 0 a).take 4 = dig 4 a := rfl
  rw [e]
  exact dig_val 4 a (Nat.lt_of_lt_of_le h (by decide))
theorem mul16 {i j b : Nat} (hi : i ≤ 4) (hj : j ≤ 4) (h : b ≤ (4 * i + j) * 65536) : b ≤ 2000000 := by
  have : (4 * i + j) * 65536 ≤ 20 * 65536 := Nat.mul_le_mul_right _ (by omega)
  omega
set_option maxHeartbeats 4000000 in
set_option maxRecDepth 20000 in
theorem refMul (a b : Nat) (ha : a < 18446744073709551616) (hb : b < 18446744073709551616) : ∀ (w : World) (M I : BS), Hp ⟨w, M, I⟩ [] [] w → Ctr Tryz.prog 102 [.int .u64 a, .int .u64 b] w M I (fun l : List Nat => bigV l) (fun l => l.length = 8 ∧ (∀ x, x ∈ l → x < 65536) ∧ val l = a * b) (fun _ => []) (fun _ => []) := by
  intro w M I H
  obtain ⟨XA, hXA⟩ : ∃ XA, XA = ofL 0 a := ⟨_, rfl⟩
  obtain ⟨YA, hYA⟩ : ∃ YA, YA = ofL 0 b := ⟨_, rfl⟩
  have lX : XA.length = 8 := by rw [hXA]; exact ofL_len 0 a
  have lY : YA.length = 8 := by rw [hYA]; exact ofL_len 0 b
  have cX : CB 103 [.int .u64 0, .int .u64 a] (bigV XA) := by rw [hXA]; exact refOf 0 a (by decide) ha
  have cY : CB 103 [.int .u64 0, .int .u64 b] (bigV YA) := by rw [hYA]; exact refOf 0 b (by decide) hb
  have vX : val (XA.take 4) = a := by rw [hXA]; exact ofL_val ha
  have vY : val (YA.take 4) = b := by rw [hYA]; exact ofL_val hb
  have gX : ∀ i, i < 4 → ∃ x, XA[i]? = some x ∧ x < 65536 := fun i h => by rw [hXA]; exact ofX a i h
  have gY : ∀ i, i < 4 → ∃ x, YA[i]? = some x ∧ x < 65536 := fun i h => by rw [hYA]; exact ofX b i h
  refine Exe.of_ev tok Tryz.call102 Tryz.func102 rfl rfl rfl ?_
  refine alloc_as tok H (bigC [0, 0, 0, 0, 0, 0, 0, 0]) rfl rfl rfl fun r w1 H1 => ?_
  refine call_rule H1 (fun M I _ h => cX _ M I h) fun _ w2 _ H2 => ?_
  refine call_rule H2 (fun M I _ h => cY _ M I h) fun _ w3 _ H3 => ?_
  refine alloc_as tok H3 (bigC [0, 0, 0, 0, 0, 0, 0, 0]) rfl rfl rfl fun px w4 H4 => ?_
  refine alloc_as tok H4 (bigC [0, 0, 0, 0, 0, 0, 0, 0]) rfl rfl rfl fun py w5 H5 => ?_
  refine store_as tok H5 (bigC XA) rfl (bigHs lX) (bigHl lX rfl) (bigH1 lX) (bigHc lX rfl) fun w6 H6 => ?_
  refine store_as tok H6 (bigC YA) rfl (bigHs lY) (bigHl lY rfl) (bigH1 lY) (bigHc lY rfl) fun w7 H7 => ?_
  refine alloc_as tok H7 (wC [0, 0, 0, 0, 0, 0, 0, 0, 0]) rfl rfl rfl fun ps w8 H8 => ?_
  have H8 : Hp ⟨w, M, I⟩ [blk ps (wC [0, 0, 0, 0, 0, 0, 0, 0, 0]) 285, blk px (bigC XA) 203, blk py (bigC YA) 203, blk r (bigC [0, 0, 0, 0, 0, 0, 0, 0]) 203] [] w8 := Hp.keep H8
  refine loop_rule tok (σ := Nat × List Nat) 2305843009213432576 (fun s => [(8, .int .i64 (s.1 : Int))]) (fun s w' => s.1 ≤ 4 ∧ MulI XA YA s.1 0 s.2 ∧ Hp ⟨w, M, I⟩ [blk ps (wC s.2) 285, blk px (bigC XA) 203, blk py (bigC YA) 203, blk r (bigC [0, 0, 0, 0, 0, 0, 0, 0]) 203] [] w') (fun s => 4 - s.1) (0, [0, 0, 0, 0, 0, 0, 0, 0, 0]) rfl rfl ⟨rfl, trivial⟩ ⟨Nat.zero_le _, MulI.start XA YA, H8⟩ ?_
  intro s j w9 hW
  have h4 := hW.1
  have hI := hW.2.1
  have H9 := hW.2.2
  refine brd (fun q => ?_) (fun q => ?_)
  · have q : (s.1 : Int) < 4 := q
    have q' : s.1 < 4 := by omega
    have ew : IntKind.i64.wrap ((s.1 : Int) + 1) = ((s.1 + 1 : Nat) : Int) := w64 (by omega) (by omega)
    refine Exists.elim (gX s.1 q') fun xi hxi => ?_
    refine loop_rule tok (σ := Nat × List Nat) 2305843009209500160 (fun z => [(9, .int .i64 (z.1 : Int))]) (fun z w' => z.1 ≤ 4 ∧ MulI XA YA s.1 z.1 z.2 ∧ Hp ⟨w, M, I⟩ [blk ps (wC z.2) 285, blk px (bigC XA) 203, blk py (bigC YA) 203, blk r (bigC [0, 0, 0, 0, 0, 0, 0, 0]) 203] [] w') (fun z => 4 - z.1) (0, s.2) rfl rfl ⟨rfl, trivial⟩ ⟨Nat.zero_le _, hI, H9⟩ ?_
    intro z j2 wa hZ
    have z4 := hZ.1
    have zI := hZ.2.1
    have Ha := hZ.2.2
    refine brd (fun qz => ?_) (fun qz => ?_)
    · have qz : (z.1 : Int) < 4 := qz
      have qz' : z.1 < 4 := by omega
      have ewz : IntKind.i64.wrap ((z.1 : Int) + 1) = ((z.1 + 1 : Nat) : Int) := w64 (by omega) (by omega)
      have es : IntKind.i64.wrap ((s.1 : Int) + (z.1 : Int)) = ((s.1 + z.1 : Nat) : Int) := w64 (by omega) (by omega)
      have es1 : IntKind.i64.wrap (IntKind.i64.wrap ((s.1 : Int) + (z.1 : Int)) + 1) = ((s.1 + z.1 + 1 : Nat) : Int) := by rw [es]; exact w64 (by omega) (by omega)
      refine Exists.elim (gY z.1 qz') fun yj hyj => ?_
      refine Exists.elim (get8 zI.len (show s.1 + z.1 < 9 by omega)) fun va hva => ?_
      have l1 : (z.2.set (s.1 + z.1) (va + xi * yj % 65536)).length = 9 := by rw [List.length_set]; exact zI.len
      refine Exists.elim (get8 l1 (show s.1 + z.1 + 1 < 9 by omega)) fun vb hvb => ?_
      have hvb0 : z.2[s.1 + z.1 + 1]? = some vb := by rw [List.getElem?_set_ne (by omega)] at hvb; exact hvb
      have bva := mul16 h4 z4 (zI.b va (List.mem_of_getElem? hva))
      have bvb := mul16 h4 z4 (zI.b vb (List.mem_of_getElem? hvb0))
      have em := mulw hxi.2 hyj.2
      have er : (IntKind.u64.wrap (IntKind.u64.wrap (xi : Int) * IntKind.u64.wrap (yj : Int))).tmod 65536 = ((xi * yj % 65536 : Nat) : Int) := by rw [em]; rfl
      have hdl : xi * yj / 65536 < 65536 := dvb (Nat.mul_le_mul (Nat.le_of_lt_succ hxi.2) (Nat.le_of_lt_succ hyj.2))
      have ed : IntKind.u64.wrap ((IntKind.u64.wrap (IntKind.u64.wrap (xi : Int) * IntKind.u64.wrap (yj : Int))).tdiv 65536) = ((xi * yj / 65536 : Nat) : Int) := by rw [em]; exact u64n (Nat.lt_trans hdl (by decide))
      have ea : IntKind.u64.wrap ((va : Int) + ((xi * yj % 65536 : Nat) : Int)) = ((va + xi * yj % 65536 : Nat) : Int) := addw bva (Nat.mod_lt _ (by decide))
      have eb : IntKind.u64.wrap ((vb : Int) + ((xi * yj / 65536 : Nat) : Int)) = ((vb + xi * yj / 65536 : Nat) : Int) := addw bvb hdl
      refine draw_rule (A := [blk ps (wC z.2) 285]) tok tdr Ha [0, 1, 2, 3, 4, 5, 6, 7, 8, 9, 10, 11, 12, 13, 14, 15, 16, 17] [0, 0, 3, 7, 15, 0, 32, 96, 224, 0, 512, 1536, 3584, 8160, 16352, 32767, 65535, 131071] rfl ?_
      refine pass_rule _ (fun w h => arrIx_rule tok (s.1 + z.1) es rfl rfl (sz := 1) rfl (show s.1 + z.1 < 9 by omega) ⟨rfl, rfl⟩) ?_
      refine pass_last _ rfl (fun X w h => load_rule tok h (v := .int .u64 (va : Int)) (ldAtW hva) ⟨rfl, rfl⟩) ?_
      refine pass_rule _ (fun w h => arrIx_rule tok s.1 rfl rfl rfl (sz := 1) rfl (show s.1 < 8 by omega) ⟨rfl, rfl⟩) ?_
      refine pass_rule _ (fun w h => load_rule tok h (v := .int .u32 (xi : Int)) (ldAt hxi.1) ⟨rfl, rfl⟩) ?_
      refine pass_rule _ (fun w h => arrIx_rule tok z.1 rfl rfl rfl (sz := 1) rfl (show z.1 < 8 by omega) ⟨rfl, rfl⟩) ?_
      refine pass_rule _ (fun w h => load_rule tok h (v := .int .u32 (yj : Int)) (ldAt hyj.1) ⟨rfl, rfl⟩) ?_
      refine pass_rule _ (fun w h => rem_as ((xi * yj % 65536 : Nat) : Int) (by decide) er ⟨rfl, rfl⟩) ?_
      refine pass_rule _ (fun w h => arrIx_rule tok (s.1 + z.1) es rfl rfl (sz := 1) rfl (show s.1 + z.1 < 9 by omega) ⟨rfl, rfl⟩) ?_
      refine imp_rule (fun X wx h => store_as tok h (wC (z.2.set (s.1 + z.1) (va + xi * yj % 65536))) rfl rfl (bleW zI.len (by omega)) rfl (stAtW _ _ _ ea) fun w1 H1 => imp_done H1 ?_)
      refine done_rule fun wb Hb => ?_
      have Hb : Hp ⟨w, M, I⟩ [blk ps (wC (z.2.set (s.1 + z.1) (va + xi * yj % 65536))) 285, blk px (bigC XA) 203, blk py (bigC YA) 203, blk r (bigC [0, 0, 0, 0, 0, 0, 0, 0]) 203] [] wb := Hp.keep Hb
      refine draw_rule (A := [blk ps (wC (z.2.set (s.1 + z.1) (va + xi * yj % 65536))) 285]) tok tdr Hb [0, 1, 2, 3, 4, 5, 6, 7, 8, 9, 10, 11, 12, 13, 14, 15, 16, 17, 18] [0, 0, 3, 7, 15, 31, 0, 64, 192, 448, 0, 1024, 3072, 7168, 16320, 32704, 65535, 131071, 262143] rfl ?_
      refine pass_rule _ (fun w h => arrIx_rule tok (s.1 + z.1 + 1) es1 rfl rfl (sz := 1) rfl (show s.1 + z.1 + 1 < 9 by omega) ⟨rfl, rfl⟩) ?_
      refine pass_last _ rfl (fun X w h => load_rule tok h (v := .int .u64 (vb : Int)) (ldAtW hvb) ⟨rfl, rfl⟩) ?_
      refine pass_rule _ (fun w h => arrIx_rule tok s.1 rfl rfl rfl (sz := 1) rfl (show s.1 < 8 by omega) ⟨rfl, rfl⟩) ?_
      refine pass_rule _ (fun w h => load_rule tok h (v := .int .u32 (xi : Int)) (ldAt hxi.1) ⟨rfl, rfl⟩) ?_
      refine pass_rule _ (fun w h => arrIx_rule tok z.1 rfl rfl rfl (sz := 1) rfl (show z.1 < 8 by omega) ⟨rfl, rfl⟩) ?_
      refine pass_rule _ (fun w h => load_rule tok h (v := .int .u32 (yj : Int)) (ldAt hyj.1) ⟨rfl, rfl⟩) ?_
      refine pass_rule _ (fun w h => quo_as ((xi * yj / 65536 : Nat) : Int) (by decide) ed ⟨rfl, rfl⟩) ?_
      refine pass_rule _ (fun w h => arrIx_rule tok (s.1 + z.1 + 1) es1 rfl rfl (sz := 1) rfl (show s.1 + z.1 + 1 < 9 by omega) ⟨rfl, rfl⟩) ?_
      refine imp_rule (fun X wx h => store_as tok h (wC ((z.2.set (s.1 + z.1) (va + xi * yj % 65536)).set (s.1 + z.1 + 1) (vb + xi * yj / 65536))) rfl rfl (bleW l1 (by omega)) rfl (stAtW _ _ _ eb) fun w1 H1 => imp_done H1 ?_)
      refine done_rule fun wc Hc => ?_
      exact Exists.intro (z.1 + 1, (z.2.set (s.1 + z.1) (va + xi * yj % 65536)).set (s.1 + z.1 + 1) (vb + xi * yj / 65536)) (And.intro ⟨congrArg (Value.int .i64) ewz, trivial⟩ (And.intro (by show 4 - (z.1 + 1) < 4 - z.1; omega) ⟨by show z.1 + 1 ≤ 4; omega, zI.step q' qz' hxi.1 hyj.1 hxi.2 hyj.2 hva hvb, Hp.keep Hc⟩))
    · have qz : ¬ (z.1 : Int) < 4 := qz
      have e4 : z.1 = 4 := by omega
      have zI' : MulI XA YA s.1 4 z.2 := e4 ▸ zI
      exact Exists.intro (s.1 + 1, z.2) (And.intro ⟨congrArg (Value.int .i64) ew, trivial⟩ (And.intro (by show 4 - (s.1 + 1) < 4 - s.1; omega) ⟨by show s.1 + 1 ≤ 4; omega, zI'.next (by omega), Ha⟩))
  · have q : ¬ (s.1 : Int) < 4 := q
    have e4 : s.1 = 4 := by omega
    have hI4 : MulI XA YA 4 0 s.2 := e4 ▸ hI
    have vS : val s.2 = a * b := by
      obtain ⟨x4, hx4⟩ := get8 lX (show 4 < 8 by decide)
      rw [hI4.v x4 hx4, vX, vY, List.take_zero, Pl.val, Nat.mul_zero, Nat.mul_zero, Nat.add_zero]
    refine alloc_as tok H9 (bigC [0, 0, 0, 0, 0, 0, 0, 0]) rfl rfl rfl fun po wa Ha => ?_
    have Ha : Hp ⟨w, M, I⟩ [blk po (bigC [0, 0, 0, 0, 0, 0, 0, 0]) 203, blk ps (wC s.2) 285, blk r (bigC [0, 0, 0, 0, 0, 0, 0, 0]) 203] [] wa := Hp.keep Ha
    refine loop_rule tok (σ := Nat × List Nat × Nat) 151113421608819433158656 (fun z => [(61, .int .i64 (z.1 : Int)), (11, .int .u64 (z.2.2 : Int))]) (fun z w' => z.1 ≤ 8 ∧ CarI s.2 z.1 z.2.1 z.2.2 ∧ Hp ⟨w, M, I⟩ [blk po (bigC z.2.1) 203, blk ps (wC s.2) 285, blk r (bigC [0, 0, 0, 0, 0, 0, 0, 0]) 203] [] w') (fun z => 8 - z.1) (0, [0, 0, 0, 0, 0, 0, 0, 0], 0) rfl rfl ⟨rfl, rfl, trivial⟩ ⟨Nat.zero_le _, CarI.start s.2, Ha⟩ ?_
    intro z j2 wb hZ
    have z8 := hZ.1
    have zC := hZ.2.1
    have Hb := hZ.2.2
    refine brd (fun qz => ?_) (fun qz => ?_)
    · have qz : (z.1 : Int) < 8 := qz
      have qz' : z.1 < 8 := by omega
      have ewz : IntKind.i64.wrap ((z.1 : Int) + 1) = ((z.1 + 1 : Nat) : Int) := w64 (by omega) (by omega)
      refine Exists.elim (get8 hI4.len (show z.1 < 9 by omega)) fun e he => ?_
      have be : e ≤ 16 * 65536 := hI4.b e (List.mem_of_getElem? he)
      have bo := zC.o
      have en : IntKind.u64.wrap ((e : Int) + (z.2.2 : Int)) = ((e + z.2.2 : Nat) : Int) := addw (by omega) (by omega)
      have er : (IntKind.u64.wrap ((e : Int) + (z.2.2 : Int))).tmod 65536 = (((e + z.2.2) % 65536 : Nat) : Int) := by rw [en]; rfl
      have ed : IntKind.u64.wrap ((IntKind.u64.wrap ((e : Int) + (z.2.2 : Int))).tdiv 65536) = (((e + z.2.2) / 65536 : Nat) : Int) := by rw [en]; exact u64n (Nat.lt_of_le_of_lt (Nat.div_le_self _ _) (by omega))
      refine arrIx_rule tok z.1 rfl rfl rfl (sz := 1) rfl (show z.1 < 9 by omega) ?_
      refine load_rule tok Hb (v := .int .u64 (e : Int)) (ldAtW he) ?_
      refine rem_as (((e + z.2.2) % 65536 : Nat) : Int) (by decide) er ?_
      refine quo_as (((e + z.2.2) / 65536 : Nat) : Int) (by decide) ed ?_
      refine arrIx_rule tok z.1 rfl rfl rfl (sz := 1) rfl (show z.1 < 8 by omega) ?_
      refine store_as tok Hb (bigC (z.2.1.set z.1 ((e + z.2.2) % 65536))) rfl rfl (bleB zC.len (by omega)) rfl (stAt _ _ _ (u32d _)) fun wc Hc => ?_
      exact Exists.intro (z.1 + 1, z.2.1.set z.1 ((e + z.2.2) % 65536), (e + z.2.2) / 65536) (And.intro ⟨congrArg (Value.int .i64) ewz, rfl, trivial⟩ (And.intro (by show 8 - (z.1 + 1) < 8 - z.1; omega) ⟨by show z.1 + 1 ≤ 8; omega, zC.step qz' he be, Hc⟩))
    · have qz : ¬ (z.1 : Int) < 8 := qz
      have e8 : z.1 = 8 := by omega
      have zC8 : CarI s.2 8 z.2.1 z.2.2 := e8 ▸ zC
      have hv := mul_end hI4.len vS zC8 ha hb
      refine load_rule tok Hb (v := bigV z.2.1) (ldBig zC.len) ?_
      refine store_as tok Hb (bigC z.2.1) rfl (bigHs zC.len) (bigHl zC.len rfl) (bigH1 zC.len) (bigHc zC.len rfl) fun wd Hd => ?_
      refine Exists.intro ⟨r, 0, none⟩ (Exists.intro (bigV z.2.1) (And.intro rfl (And.intro (Hp.ld (T := tb) tok Hd (ldBig zC.len)) ?_)))
      exact Exists.intro z.2.1 (And.intro rfl (And.intro ⟨zC.len, zC.lt, hv⟩ (Hp.keep Hd)))
end Go.Proofs.YtjlfjjgjghdokaaGreatDoor
