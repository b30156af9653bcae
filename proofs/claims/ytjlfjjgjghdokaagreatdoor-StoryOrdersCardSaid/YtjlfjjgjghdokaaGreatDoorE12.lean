/- The document's days: its sum, what a day counts, what it brings: the walks. -/
import Derived.Test.YtjlfjjgjghdokaaGreatDoorD53
import Derived.Test.YtjlfjjgjghdokaaGreatDoorE11
set_option linter.unusedVariables false
namespace Go.Proofs.YtjlfjjgjghdokaaGreatDoor
open Go Go.Proofs Go.Wk Go.Pl
theorem val_zip : ∀ (a b : List Nat), a.length = b.length → val (List.zipWith (· + ·) a b) = val a + val b
  | [], [], _ => rfl
  | x :: a, y :: b, h => by
    have ih := val_zip a b (Nat.succ.inj h)
    simp only [List.zipWith_cons_cons, Pl.val, ih]
    omega
  | [], _ :: _, h => by cases h
  | _ :: _, [], h => by cases h
theorem add_end {s out : List Nat} {over n : Nat} (hl : s.length = 8) (hv : val s = n) (hn : n < 340282366920938463463374607431768211456) (h : CarI s 8 out over) : val out = n := by
  have h8 : s.take 8 = s := List.take_of_length_le (by omega)
  have e1 := h.v
  rw [h8, hv] at e1
  have e8 : (65536 : Nat) ^ 8 = 340282366920938463463374607431768211456 := by decide
  rw [e8] at e1
  omega
theorem u32add {x y : Nat} (h : x + y < 4294967296) : IntKind.u32.wrap ((x : Int) + (y : Int)) = ((x + y : Nat) : Int) := by
  rw [← Int.natCast_add]
  exact u32_of (x := x + y) (by omega)
set_option maxRecDepth 20000 in
theorem refAdd (a b : List Nat) (hla : a.length = 8) (hlb : b.length = 8) (ha : ∀ x, x ∈ a → x < 65536) (hb : ∀ x, x ∈ b → x < 65536) (hs : val a + val b < 340282366920938463463374607431768211456) (w : World) (M I : BS) (H : Hp ⟨w, M, I⟩ [] [] w) :
    Ctr Tryz.prog 101 [bigV a, bigV b] w M I (fun p : List Nat × Bool => .tuple #[bigV p.1, .bool p.2]) (fun p => p.1.length = 8 ∧ (∀ x, x ∈ p.1 → x < 65536) ∧ val p.1 = val a + val b) (fun _ => []) (fun _ => []) := by
  obtain ⟨s, es⟩ : ∃ s, s = List.zipWith (· + ·) a b := ⟨_, rfl⟩
  have ls : s.length = 8 := by rw [es, List.length_zipWith, hla, hlb]; rfl
  have vs : val s = val a + val b := by rw [es]; exact val_zip a b (by rw [hla, hlb])
  have gs : ∀ i, i < 8 → ∃ x y, a[i]? = some x ∧ b[i]? = some y ∧ s[i]? = some (x + y) ∧ x < 65536 ∧ y < 65536 := fun i hi => by
    obtain ⟨x, hx⟩ := get8 hla hi
    obtain ⟨y, hy⟩ := get8 hlb hi
    exact ⟨x, y, hx, hy, by rw [es, List.getElem?_zipWith, hx, hy], ha x (List.mem_of_getElem? hx), hb y (List.mem_of_getElem? hy)⟩
  refine Exe.of_ev tok Tryz.call101 Tryz.func101 rfl rfl rfl ?_
  refine box_as H (bigC a) (bigCells a) fun pa w1 H1 => ?_
  refine box_as H1 (bigC b) (bigCells b) fun pb w2 H2 => ?_
  refine alloc_as tok H2 (bigC [0, 0, 0, 0, 0, 0, 0, 0]) rfl rfl rfl fun r w3 H3 => ?_
  refine alloc_as tok H3 (bigC [0, 0, 0, 0, 0, 0, 0, 0]) rfl rfl rfl fun po w4 H4 => ?_
  have H4 : Hp ⟨w, M, I⟩ [blk po (bigC [0, 0, 0, 0, 0, 0, 0, 0]) 203, blk pa (bigC a) 203, blk pb (bigC b) 203, blk r (bigC [0, 0, 0, 0, 0, 0, 0, 0]) 203] [] w4 := Hp.keep H4
  refine loop_rule tok (σ := Nat × List Nat × Nat) 536870784 (fun z => [(10, .int .i64 (z.1 : Int)), (7, .int .u32 (z.2.2 : Int))]) (fun z w' => z.1 ≤ 8 ∧ CarI s z.1 z.2.1 z.2.2 ∧ Hp ⟨w, M, I⟩ [blk po (bigC z.2.1) 203, blk pa (bigC a) 203, blk pb (bigC b) 203, blk r (bigC [0, 0, 0, 0, 0, 0, 0, 0]) 203] [] w') (fun z => 8 - z.1) (0, [0, 0, 0, 0, 0, 0, 0, 0], 0) rfl rfl ⟨rfl, rfl, trivial⟩ ⟨Nat.zero_le _, CarI.start s, H4⟩ ?_
  intro z j w5 hZ
  have z8 := hZ.1
  have zC := hZ.2.1
  have H5 := hZ.2.2
  refine brd (fun qz => ?_) (fun qz => ?_)
  · have qz : (z.1 : Int) < 8 := qz
    have qz' : z.1 < 8 := by omega
    have ewz : IntKind.i64.wrap ((z.1 : Int) + 1) = ((z.1 + 1 : Nat) : Int) := w64 (by omega) (by omega)
    refine Exists.elim (gs z.1 qz') fun x hx => Exists.elim hx fun y hxy => ?_
    have hx1 := hxy.1
    have hy1 := hxy.2.1
    have hs1 := hxy.2.2.1
    have hxl := hxy.2.2.2.1
    have hyl := hxy.2.2.2.2
    have bo := zC.o
    have ea : IntKind.u32.wrap (IntKind.u32.wrap ((x : Int) + (y : Int)) + (z.2.2 : Int)) = ((x + y + z.2.2 : Nat) : Int) := by rw [u32add (by omega)]; exact u32add (by omega)
    have er : (IntKind.u32.wrap (IntKind.u32.wrap ((x : Int) + (y : Int)) + (z.2.2 : Int))).tmod 65536 = (((x + y + z.2.2) % 65536 : Nat) : Int) := by rw [ea]; rfl
    have ed : IntKind.u32.wrap ((IntKind.u32.wrap (IntKind.u32.wrap ((x : Int) + (y : Int)) + (z.2.2 : Int))).tdiv 65536) = (((x + y + z.2.2) / 65536 : Nat) : Int) := by rw [ea]; exact u32_of (x := (x + y + z.2.2) / 65536) (by omega)
    refine draw_rule (A := []) tok tdr H5 [0, 1, 2, 3, 4, 5, 6, 7, 8, 9] [0, 1, 3, 0, 8, 24, 63, 0, 255, 511] rfl ?_
    refine pass_rule _ (fun w h => arrIx_rule tok z.1 rfl rfl rfl (sz := 1) rfl (show z.1 < 8 by omega) ⟨rfl, rfl⟩) ?_
    refine pass_rule _ (fun w h => load_rule tok h (v := .int .u32 (x : Int)) (ldAt hx1) ⟨rfl, rfl⟩) ?_
    refine pass_rule _ (fun w h => arrIx_rule tok z.1 rfl rfl rfl (sz := 1) rfl (show z.1 < 8 by omega) ⟨rfl, rfl⟩) ?_
    refine pass_rule _ (fun w h => load_rule tok h (v := .int .u32 (y : Int)) (ldAt hy1) ⟨rfl, rfl⟩) ?_
    refine done_rule fun w6 H6 => ?_
    refine rem_as (((x + y + z.2.2) % 65536 : Nat) : Int) (by decide) er ?_
    refine quo_as (((x + y + z.2.2) / 65536 : Nat) : Int) (by decide) ed ?_
    refine arrIx_rule tok z.1 rfl rfl rfl (sz := 1) rfl (show z.1 < 8 by omega) ?_
    refine store_as tok H6 (bigC (z.2.1.set z.1 ((x + y + z.2.2) % 65536))) rfl rfl (bleB zC.len (by omega)) rfl (stAt _ _ _ rfl) fun wc Hc => ?_
    exact Exists.intro (z.1 + 1, z.2.1.set z.1 ((x + y + z.2.2) % 65536), (x + y + z.2.2) / 65536) (And.intro ⟨congrArg (Value.int .i64) ewz, rfl, trivial⟩ (And.intro (by show 8 - (z.1 + 1) < 8 - z.1; omega) ⟨by show z.1 + 1 ≤ 8; omega, zC.step qz' hs1 (by omega), Hp.keep Hc⟩))
  · have qz : ¬ (z.1 : Int) < 8 := qz
    have e8 : z.1 = 8 := by omega
    have zC8 : CarI s 8 z.2.1 z.2.2 := e8 ▸ zC
    have hv := add_end ls vs hs zC8
    refine load_rule tok H5 (v := bigV z.2.1) (ldBig zC.len) ?_
    refine store_as tok H5 (bigC z.2.1) rfl (bigHs zC.len) (bigHl zC.len rfl) (bigH1 zC.len) (bigHc zC.len rfl) fun wd Hd => ?_
    refine Exists.intro ⟨r, 0, none⟩ (Exists.intro (bigV z.2.1) (And.intro rfl (And.intro (Hp.ld (T := tb) tok Hd (ldBig zC.len)) ?_)))
    exact Exists.intro (z.2.1, _) (And.intro rfl (And.intro ⟨zC.len, zC.lt, hv⟩ (Hp.keep Hd)))
theorem refUnit (parts b : Int) : CB 105 [rrV parts (b == 2)] (.int .u64 ((unitN b : Nat) : Int)) := by
  intro w M I H
  refine Exe.of_ev tok Tryz.call105 Tryz.func105 rfl rfl rfl ?_
  refine box_as H (rrC parts (b == 2)) rfl fun r w1 H1 => ?_
  refine load_rule tok H1 (v := .bool (b == 2)) rfl ?_
  refine br (fun q => ?_) (fun q => ?_)
  · have q : b = 2 := eq_of_beq q
    exact Exists.intro () (And.intro (by unfold unitN; rw [if_pos q]; rfl) (And.intro trivial (Hp.keep H1)))
  · have q : b ≠ 2 := ne_of_beq_false q
    exact Exists.intro () (And.intro (by unfold unitN; rw [if_neg q]; rfl) (And.intro trivial (Hp.keep H1)))
theorem refOne (b n : Int) (h0 : 0 ≤ n) (h1 : n ≤ 3652058) (w : World) (M I : BS) (H : Hp ⟨w, M, I⟩ [] [] w) :
    Ctr Tryz.prog 47 [.bool (b == 2), .int .i64 n] w M I (fun r : Int => .int .i64 r) (fun r => OneR b n r) (fun _ => []) (fun _ => []) := by
  have hdb : dayB n = true := by simp only [dayB, Bool.and_eq_true, decide_eq_true_eq]; omega
  refine Exe.of_ev tok Tryz.call47 Tryz.func47 rfl rfl rfl ?_
  refine br (fun q => ?_) (fun q => ?_)
  · have q : b ≠ 2 := by simpa using q
    refine Exists.elim (dat_ex n.toNat (by omega)) fun y hy => Exists.elim hy fun m hm => Exists.elim hm fun d hd => ?_
    exact Exists.intro 1 (And.intro rfl (And.intro ⟨⟨y, m, d, hd.1, by rw [hd.2]; omega, by unfold oneN; rw [if_neg q]⟩⟩ (Hp.keep H)))
  have q : b = 2 := by simpa using q
  refine call_rule H (fun M I _ h => refCivil n h0 h1 _ M I h) fun a w1 ha H1 => ?_
  refine alloc_as tok H1 (civC 0 0 0) rfl rfl rfl fun p w2 H2 => ?_
  refine store_as tok H2 (civC a.1 a.2.1 a.2.2) rfl rfl rfl rfl rfl fun w3 H3 => ?_
  refine load_rule tok H3 (v := .int .i64 a.1) rfl ?_
  refine load_rule tok H3 (v := .int .i64 a.2.1) rfl ?_
  refine call_rule H3 (fun M I _ h => refLength a.1 a.2.1 ha.1.y1 ha.1.y2 ha.1.m1 ha.1.m2 _ M I h) fun _ w4 _ H4 => ?_
  refine load_rule tok H4 (v := .int .i64 a.2.2) rfl ?_
  have hlp := len_pos (y := a.1) (m := a.2.1)
  refine brd (fun q2 => ?_) (fun q2 => ?_)
  · exact Exists.intro 1 (And.intro rfl (And.intro ⟨⟨a.1, a.2.1, a.2.2, ha.1, ha.2, by unfold oneN; rw [if_pos q, if_pos q2]⟩⟩ (Hp.keep H4)))
  · have hR : OneR b n (31 - lenM a.1 a.2.1) := ⟨⟨a.1, a.2.1, a.2.2, ha.1, ha.2, by unfold oneN; rw [if_pos q, if_neg q2]⟩⟩
    have e31 : IntKind.i64.wrap (31 - lenM a.1 a.2.1) = 31 - lenM a.1 a.2.1 := i64w (by omega) (by omega)
    refine br (fun q3 => ?_) (fun q3 => ?_)
    · have q3 : lenM a.1 a.2.1 = 31 := eq_of_beq q3
      exact Exists.intro 0 (And.intro rfl (And.intro (by rw [q3] at hR; exact hR) (Hp.keep H4)))
    · exact Exists.intro (31 - lenM a.1 a.2.1) (And.intro (congrArg (Value.int .i64) e31) (And.intro hR (Hp.keep H4)))
set_option maxRecDepth 20000 in
theorem refDaysN (parts b : Int) (pN p days c : Nat) (hpp : parts = (pN : Int)) (hparts : pN ≤ 1000000) (hp : p ≤ 1000000000000) (hd : days ≤ 100000) (hc : c < unitN b) :
    CB 46 [rrV parts (b == 2), .int .i64 p, .int .i64 days, .int .u64 c] (.tuple #[.int .i64 ((dayX pN p days c / unitN b : Nat) : Int), .int .u64 ((dayX pN p days c % unitN b : Nat) : Int)]) := by
  intro w M I H
  have hU := unit_bd b
  have hX := dayX_bd hparts hp hd (c := c) (by omega)
  have hq := dayX_q hX hU.1
  have hm : pN * days ≤ 1000000 * 100000 := Nat.mul_le_mul hparts hd
  have e1 : IntKind.u64.wrap (p : Int) = ((p : Nat) : Int) := u64n (by omega)
  have e2 : IntKind.u64.wrap (IntKind.u64.wrap parts * IntKind.u64.wrap (days : Int)) = ((pN * days : Nat) : Int) := by
    rw [hpp, u64n (x := pN) (by omega), u64n (x := days) (by omega), ← Int.natCast_mul, u64n (by omega)]
  have e3 : IntKind.i64.wrap ((dayX pN p days c / unitN b : Nat) : Int) = ((dayX pN p days c / unitN b : Nat) : Int) := i64nat hq
  have rm := refMul p (pN * days) (by omega) (by omega)
  have ro := refOf 0 c (by decide) (by omega)
  have vo : val (ofL 0 c) = c := by
    have h1 := words_of (ofL_len 0 c) (ofL_lt 0 c)
    have h4 := ofL_val (a := c) (by omega)
    unfold ofL at h4 ⊢
    rw [val_app, dig_val 4 c (by show c < 18446744073709551616; omega)]
    have hz : val (dig 4 0) = 0 := dig_val 4 0 (by decide)
    rw [hz]; omega
  refine Exe.of_ev tok Tryz.call46 Tryz.func46 rfl rfl rfl ?_
  refine box_as H (rrC parts (b == 2)) rfl fun r w1 H1 => ?_
  refine load_rule tok H1 (v := .int .u32 parts) rfl ?_
  refine call_rule H1 (fun M I _ h => e1.symm ▸ e2.symm ▸ rm _ M I h) fun l w2 hl H2 => ?_
  refine call_rule H2 (fun M I _ h => ro _ M I h) fun _ w3 _ H3 => ?_
  have hsum : val l + val (ofL 0 c) = dayX pN p days c := by rw [hl.2.2, vo]; rfl
  refine call_rule H3 (fun M I _ h => refAdd l (ofL 0 c) hl.1 (ofL_len 0 c) hl.2.1 (ofL_lt 0 c) (by rw [hsum]; omega) _ M I h) fun s w4 hs H4 => ?_
  have hs1 := hs.1
  have hsv : Pl.val s.1 = dayX pN p days c := hs.2.2.trans hsum
  refine alloc_as tok H4 (bigC [0, 0, 0, 0, 0, 0, 0, 0]) rfl rfl rfl fun q w5 H5 => ?_
  refine store_as tok H5 (bigC s.1) rfl (bigHs hs1) (bigHl hs1 rfl) (bigH1 hs1) (bigHc hs1 rfl) fun w6 H6 => ?_
  refine draw_rule (A := []) tok tdr H6 [1, 2, 0, 3, 4, 5, 7, 8, 6, 9] [0, 0, 2, 7, 15, 31, 31, 0, 191, 511] rfl ?_
  refine pass_rule _ (fun w h => load_rule tok h (v := rrV parts (b == 2)) rfl ⟨rfl, rfl⟩) ?_
  refine imp_rule (fun X wx h => call_rule h (fun M I _ h => refUnit parts b _ M I h) fun _ w1 _ H1 => imp_done H1 ?_)
  refine pass_rule _ (fun w h => load_rule tok h (v := bigV s.1) (ldBig hs1) ⟨rfl, rfl⟩) ?_
  refine imp_rule (fun X wx h => call_rule h (fun M I _ h => refDiv s.1 (unitN b) hs1 hs.2.1 (by omega) (by omega) _ M I h) fun d w1 hd H1 => imp_done H1 ?_)
  refine fresh_alloc tok rfl rfl rfl fun y => ?_
  have hd1 := hd.1
  have hdv : Pl.val d = dayX pN p days c / unitN b := by rw [hd.2.2, hsv]
  have hdl : Pl.val d < 18446744073709551616 := by rw [hdv]; omega
  have hw := words_of hd1 hd.2.1 hdl
  refine imp_rule (fun X wx h => store_as tok h (bigC d) rfl (bigHs hd1) (bigHl (z := [0, 0, 0, 0, 0, 0, 0, 0]) hd1 rfl) (bigH1 hd1) (bigHc (z := [0, 0, 0, 0, 0, 0, 0, 0]) hd1 rfl) fun w1 H1 => imp_done H1 ?_)
  refine done_rule fun w7 H7 => ?_
  refine load_rule tok H7 (v := bigV d) (ldBig hd1) ?_
  refine call_rule H7 (fun M I _ h => (show Ctr Tryz.prog 106 [bigV d, .bool false] _ M I (fun _ : Unit => .int .u64 ((dayX pN p days c / unitN b : Nat) : Int)) (fun _ => True) (fun _ => []) (fun _ => []) from (by
    have h1 := refWordLo d hd1 (by rw [hw.1]; exact hdl) _ M I h
    rw [hw.1, hdv] at h1
    exact h1))) fun _ w8 _ H8 => ?_
  refine Exists.intro () (And.intro ?_ (And.intro trivial (Hp.keep H8)))
  show Value.tuple #[.int .i64 (IntKind.i64.wrap ((dayX pN p days c / unitN b : Nat) : Int)), .int .u64 ((Pl.val s.1 % unitN b : Nat) : Int)] = _
  rw [e3, hsv]
theorem refDay (parts b prin carry n : Int) (h0 : 0 ≤ parts) (h0' : parts ≤ 1000000) (hp0 : 0 ≤ prin) (hp : prin ≤ 1000000000000) (hn0 : 0 ≤ n) (hn : n ≤ 3652058) (hc0 : 0 ≤ carry) (hc : carry < (unitN b : Int)) :
    CB 15 [rrV parts (b == 2), .int .i64 prin, .int .i64 n, .int .u64 carry] (.tuple #[.int .i64 (brings parts b prin carry n).1, .int .u64 (brings parts b prin carry n).2]) := by
  intro w M I H
  have e1 : parts = ((parts.toNat : Nat) : Int) := by omega
  have e2 : prin = ((prin.toNat : Nat) : Int) := by omega
  have e3 : carry = ((carry.toNat : Nat) : Int) := by omega
  refine Exe.of_ev tok Tryz.call15 Tryz.func15 rfl rfl rfl ?_
  refine box_as H (rrC parts (b == 2)) rfl fun r w1 H1 => ?_
  refine draw_rule (A := []) tok tdr H1 [2, 3, 4, 5, 0, 1, 6, 7, 8, 9, 10, 11] [0, 0, 0, 4, 0, 28, 0, 127, 255, 255, 1023, 2047] rfl ?_
  refine pass_rule _ (fun w h => load_rule tok h (v := .bool (b == 2)) rfl ⟨rfl, rfl⟩) ?_
  refine imp_rule (fun X wx h => call_rule h (fun M I _ h => refOne b n hn0 hn _ M I h) fun d w1 hd H1 => imp_done H1 ?_)
  have hbd := hd.bd
  have ed : d = ((d.toNat : Nat) : Int) := by omega
  have hb : brings parts b prin carry n = (((dayX parts.toNat prin.toNat d.toNat carry.toNat / unitN b : Nat) : Int), ((dayX parts.toNat prin.toNat d.toNat carry.toNat % unitN b : Nat) : Int)) := by unfold brings; rw [dayN_eq hd]
  have ctr := fun w M I h => refDaysN parts b parts.toNat prin.toNat d.toNat carry.toNat e1 (by omega) (by omega) (by omega) (by omega) w M I h
  rw [← ed, ← e2, ← e3] at ctr
  refine pass_rule _ (fun w h => load_rule tok h (v := rrV parts (b == 2)) rfl ⟨rfl, rfl⟩) ?_
  refine imp_rule (fun X wx h => call_rule h (fun M I _ h => ctr _ M I h) fun _ w1 _ H1 => imp_done H1 ?_)
  refine done_rule fun w2 H2 => ?_
  refine Exists.intro () (And.intro ?_ (And.intro trivial (Hp.keep H2)))
  rw [hb]; rfl
end Go.Proofs.YtjlfjjgjghdokaaGreatDoor
