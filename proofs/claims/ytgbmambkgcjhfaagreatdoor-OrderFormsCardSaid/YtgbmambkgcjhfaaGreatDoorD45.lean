/- The document's words of an order; OrderReads: the walks. Printed by gen45.py. -/
import Derived.Test.YtgbmambkgcjhfaaGreatDoorD44
set_option linter.unusedVariables false
namespace Go.Proofs.YtgbmambkgcjhfaaGreatDoor
open Go Go.Proofs Go.Wk Go.Pl
theorem app_bs (a : List UInt8) (s : ByteArray) : strOf a ++ s = strOf (a ++ bsL s) := by
  have e : s = strOf (bsL s) := (strOf_of s).symm
  rw [← strOf_app, ← e]
theorem kd_bs (k : Int) (a : List UInt8) : kindName k ++ strOf a = strOf (bsL (kindName k) ++ a) := by
  rw [← strOf_app, ← kdS]
theorem kindAt {k : Int} (h : 4 ≤ k ∧ k ≤ 7) : ldV (tb 9) [.string ⟨#[112, 97, 121]⟩, .string ⟨#[102, 101, 101]⟩, .string ⟨#[119, 97, 105, 118, 101]⟩, .string ⟨#[111, 102, 102]⟩] (0 + (IntKind.u8.wrap (k - 4)).toNat * 1) = some (.string (kindName k)) := by
  have e : k = 4 ∨ k = 5 ∨ k = 6 ∨ k = 7 := by omega
  rcases e with rfl | rfl | rfl | rfl <;> rfl
theorem refT1 {o : Od} (k : o.kind = 1) {s : ByteArray} (hs : TmT o.tm s) : OdT o (strOf (wBoard ++ [32] ++ Lib.itoa o.loan ++ [32] ++ bsL s)) := by
  obtain ⟨y, m, d, hd, hn, e⟩ := hs
  refine ⟨_, .inl ⟨k, y, m, d, hd, hn, rfl⟩, ?_⟩
  rw [e]
  unfold tmWords bsL
  rw [strOf_data, join_cons wBoard, join_cons (Lib.itoa o.loan)]
  simp only [List.append_assoc, List.cons_append, List.nil_append]
theorem refT2 {o : Od} (k : o.kind = 2) {y m d : Int} (hd : Dat y m d) (hn : numD y m d = o.ev.day) (h7 : o.ev.kind ≠ 7) : OdT o (strOf (bsL (kindName o.ev.kind) ++ [32] ++ Lib.itoa o.loan ++ [32] ++ Lib.itoa o.ev.seq ++ [32] ++ datL y m d ++ ([32] ++ coinL o.ev.amt))) := by
  refine ⟨_, .inr (.inl ⟨k, y, m, d, hd, hn, rfl⟩), ?_⟩
  unfold odW2
  rw [if_neg h7]
  simp only [join_cons, join_one, List.append_assoc, List.cons_append, List.nil_append]
theorem refT2' {o : Od} (k : o.kind = 2) {y m d : Int} (hd : Dat y m d) (hn : numD y m d = o.ev.day) (h7 : o.ev.kind = 7) : OdT o (strOf (bsL (kindName o.ev.kind) ++ [32] ++ Lib.itoa o.loan ++ [32] ++ Lib.itoa o.ev.seq ++ [32] ++ datL y m d)) := by
  refine ⟨_, .inr (.inl ⟨k, y, m, d, hd, hn, rfl⟩), ?_⟩
  unfold odW2
  rw [if_pos h7]
  simp only [join_cons, join_one, List.append_assoc, List.cons_append, List.nil_append]
theorem refT3 {o : Od} (k : o.kind = 3) : OdT o (strOf (wRev ++ [32] ++ Lib.itoa o.loan ++ [32] ++ Lib.itoa o.ev.seq)) := by
  refine ⟨_, .inr (.inr (.inl ⟨k, rfl⟩)), ?_⟩
  simp only [join_cons, join_one, List.append_assoc, List.cons_append, List.nil_append]
theorem refT4 {o : Od} (k : o.kind = 4) : OdT o ⟨#[115, 116, 101, 112]⟩ := ⟨_, .inr (.inr (.inr ⟨k, rfl⟩)), by rw [join_one]; rfl⟩
theorem OdW.le {o : Od} {l : List (List UInt8)} (ho : odB o = true) (hin : OdIn o) (h : OdW o l) : (∀ x, x ∈ l → x.length ≤ 300) ∧ l.length ≤ 10 := by
  have hl : 0 ≤ o.loan ∧ o.loan ≤ 4294967295 := hin.loan
  have hs : 0 ≤ o.ev.seq ∧ o.ev.seq ≤ 4294967295 := hin.ev.seq
  have nl := num_len hl.1 hl.2
  have ns := num_len hs.1 hs.2
  rw [strOf_size] at nl ns
  rcases h with ⟨k, y, m, d, hd, hn, e⟩ | ⟨k, y, m, d, hd, hn, e⟩ | ⟨k, e⟩ | ⟨k, e⟩ <;> rcases od_cases ho with ⟨k', ht, _⟩ | ⟨k', he, _⟩ | ⟨k', _, _⟩ | ⟨k', _, _, _⟩ <;> try (exfalso; omega)
  all_goals rw [e]
  · have hw := words_len2 o.tm hin.tm hd
    refine ⟨fun x hx => ?_, by simp [tmWords]⟩
    rcases List.mem_cons.1 hx with h | hx
    · rw [h]; decide
    rcases List.mem_cons.1 hx with h | hx
    · rw [h]; exact nl
    · have := hw x hx; omega
  · have ok := evB_iff.1 he
    have kk := (kind_sp _ ok.kind).2.1
    unfold odW2
    refine ⟨fun x hx => ?_, by split <;> simp⟩
    rcases List.mem_cons.1 hx with h | hx
    · rw [h]; omega
    rcases List.mem_cons.1 hx with h | hx
    · rw [h]; exact nl
    rcases List.mem_cons.1 hx with h | hx
    · rw [h]; exact ns
    rcases List.mem_cons.1 hx with h | hx
    · rw [h, dat_length hd]; decide
    split at hx
    · cases hx
    · rw [List.mem_singleton.1 hx]; exact Nat.le_trans (coin_len _ hin.ev.amt) (by decide)
  · refine ⟨fun x hx => ?_, by simp⟩
    simp only [List.mem_cons, List.not_mem_nil, or_false] at hx
    rcases hx with h | h | h <;> rw [h]
    · decide
    · exact nl
    · exact ns
  · refine ⟨fun x hx => ?_, by simp⟩
    rw [List.mem_singleton.1 hx]; decide
theorem OdT.size {o : Od} {s : ByteArray} (ho : odB o = true) (hin : OdIn o) (h : OdT o s) : s.size ≤ 3010 := by
  obtain ⟨l, hl, e⟩ := h
  have hw := hl.le ho hin
  have := join_len3 32 l hw.1
  have h10 := hw.2
  rw [e, strOf_size]
  omega
theorem odReadYesS (s : ByteArray) (o : Od) (ho : odB o = true) (hin : OdIn o) (ht : OdT o s) (w : World) (M I : BS) (hM : ∀ b, ¬ M b) (H : Hp ⟨w, M, I⟩ [] [LibF] w) :
    Ctr Tryz.prog 20 [.string s] w M I (fun _ : Unit => .tuple #[odV o, .nilIface]) (fun _ => True) (fun _ => []) (fun _ => []) := by
  have hz := ht.size ho hin
  obtain ⟨l, rfl⟩ : ∃ l, s = strOf l := ⟨s.data.toList, (strOf_of s).symm⟩
  rw [strOf_size] at hz
  exact odReadYes l (by omega) o ho hin ht w M I hM H
theorem decN (n : Int) (h0 : 0 ≤ n) (h1 : n < 18446744073709551616) (w : World) (M I : BS) (H : Hp ⟨w, M, I⟩ [] [] w) : Ctr Tryz.prog 57 [.int .u64 (IntKind.u64.wrap n)] w M I (fun _ : Unit => .string (strOf (Lib.itoa n))) (fun _ => True) (fun _ => []) (fun _ => []) := by
  rw [itoa_nat h0]
  exact refDec_as n.toNat _ (u64_of h0 h1) (by omega) w M I H
set_option maxHeartbeats 8000000 in
set_option maxRecDepth 20000 in
/-- The document's words of an order. -/
theorem refOdText (o : Od) (hin : OdIn o) (ho : odB o = true) (w : World) (M I : BS) (H : Hp ⟨w, M, I⟩ [] [] w) :
    Ctr Tryz.prog 21 [roV o] w M I (fun s : ByteArray => .string s) (fun s => OdT o s) (fun _ => []) (fun _ => []) := by
  have hl : 0 ≤ o.loan ∧ o.loan ≤ 4294967295 := hin.loan
  have hs : 0 ≤ o.ev.seq ∧ o.ev.seq ≤ 4294967295 := hin.ev.seq
  have nl := num_len hl.1 hl.2
  have ns := num_len hs.1 hs.2
  rw [strOf_size] at nl ns
  have lb : wBoard.length = 5 := rfl
  have lr : wRev.length = 7 := rfl
  refine Exe.of_ev tok Tryz.call21 Tryz.func21 rfl rfl rfl ?_
  refine box_as H (roC o) rfl fun x w1 H1 => ?_
  have H2 : Hp ⟨w, M, I⟩ [blk x (roC o) 40] [] w1 := H1.keep
  refine draw_rule (A := []) tok tdr H2 [0, 1, 2, 3, 4, 5, 6, 7, 8, 9, 10] [0, 1, 3, 7, 0, 16, 48, 112, 255, 511, 1023] rfl ?_
  refine pass_rule _ (fun w h => load_rule tok h (v := .int .u32 o.loan) rfl ⟨rfl, rfl⟩) ?_
  refine imp_rule (fun X wx h => call_rule h (fun M I _ h => decN o.loan hl.1 (by omega) _ M I h) fun _ w1 _ H1 => imp_done H1 ?_)
  refine pass_rule _ (fun w h => load_rule tok h (v := .int .u32 o.ev.seq) rfl ⟨rfl, rfl⟩) ?_
  refine imp_rule (fun X wx h => call_rule h (fun M I _ h => decN o.ev.seq hs.1 (by omega) _ M I h) fun _ w1 _ H1 => imp_done H1 ?_)
  refine done_rule fun w3 H3 => ?_
  have H3 : Hp ⟨w, M, I⟩ [blk x (roC o) 40] [] w3 := H3.keep
  refine load_rule tok H3 (v := .int .u8 o.kind) rfl ?_
  refine Or.elim (od_cases ho) (fun c1 => ?_) (fun c => Or.elim c (fun c2 => ?_) (fun c => Or.elim c (fun c3 => ?_) (fun c4 => ?_)))
  · have k := c1.1
    have ht := c1.2.1
    refine br (fun _ => ?_) (fun q => absurd (show (o.kind == 1) = false from q) (by rw [k]; decide))
    refine sadd_as (strOf (wBoard ++ [32] ++ Lib.itoa o.loan)) (by rw [wB2_data, strOf_app]) (by rw [strOf_size]; simp only [List.length_append, List.length_cons, List.length_nil]; omega) ?_
    refine sadd_as (strOf (wBoard ++ [32] ++ Lib.itoa o.loan ++ [32])) (by rw [c32_data, strOf_app]) (by rw [strOf_size]; simp only [List.length_append, List.length_cons, List.length_nil]; omega) ?_
    refine load_rule tok H3 (v := rtV o.tm) rfl ?_
    refine call_rule H3 (fun M I _ h => refText o.tm hin.tm (tmB_iff.1 ht) _ M I h) fun s w4 hs4 H4 => ?_
    have hz := tmT_size hin.tm hs4
    have hz2 : (bsL s).length ≤ 248 := by unfold bsL; simpa using hz
    refine sadd_as (strOf (wBoard ++ [32] ++ Lib.itoa o.loan ++ [32] ++ bsL s)) (app_bs _ _) (by rw [strOf_size]; simp only [List.length_append, List.length_cons, List.length_nil]; omega) ?_
    exact Exists.intro _ (And.intro rfl (And.intro (refT1 k hs4) (Hp.keep H4)))
  · have k := c2.1
    have ok := evB_iff.1 c2.2.1
    have hk := ok.kind
    have hday := ok.day
    have ham := ok.amt
    have lk := (kind_sp _ hk).2.1
    have ek : IntKind.u8.wrap (o.ev.kind - 4) = o.ev.kind - 4 := wrap_id ⟨by show (0 : Int) ≤ _; omega, by show _ ≤ (255 : Int); omega⟩
    have k0 : 0 ≤ IntKind.u8.wrap (o.ev.kind - 4) := by rw [ek]; omega
    have k1 : IntKind.u8.wrap (o.ev.kind - 4) < ((4 : Nat) : Int) := by rw [ek]; omega
    refine br (fun q => absurd (show (o.kind == 1) = true from q) (by rw [k]; decide)) (fun _ => ?_)
    refine br (fun _ => ?_) (fun q => absurd (show (o.kind == 2) = false from q) (by rw [k]; decide))
    refine draw_rule (A := []) tok tdr H3 [14, 15, 16, 17, 18, 0, 1, 2, 3, 4, 5, 6, 7, 8, 9, 10, 11, 12, 13, 19, 20] [0, 0, 2, 6, 14, 31, 63, 127, 0, 511, 1023, 0, 4095, 8191, 0, 16384, 49152, 114688, 245760, 524287, 1048575] rfl ?_
    refine pass_rule _ (fun w h => load_rule tok h (v := .int .i64 o.ev.day) rfl ⟨rfl, rfl⟩) ?_
    refine imp_rule (fun X wx h => call_rule h (fun M I _ h => refCivil o.ev.day hday.1 hday.2 _ M I h) fun a w1 ha H1 => imp_done H1 ?_)
    refine imp_rule (fun X wx h => call_rule h (fun M I _ h => refDate a.1 a.2.1 a.2.2 ha.1 _ M I h) fun _ w1 _ H1 => imp_done H1 ?_)
    have ld := dat_length ha.1
    refine fresh_slice tok [.string ⟨#[112, 97, 121]⟩, .string ⟨#[102, 101, 101]⟩, .string ⟨#[119, 97, 105, 118, 101]⟩, .string ⟨#[111, 102, 102]⟩] rfl rfl rfl rfl rfl rfl rfl fun g => ?_
    refine pass_rule _ (fun w h => load_rule tok h (v := .int .u8 o.ev.kind) rfl ⟨rfl, rfl⟩) ?_
    refine pass_rule _ (fun w h => idx_own tok rfl rfl k0 k1 ⟨rfl, rfl⟩) ?_
    refine pass_born 0 _ rfl (fun X w h => load_rule tok h (v := .string (kindName o.ev.kind)) (kindAt hk) ⟨rfl, rfl⟩) ?_
    refine pass_rule _ (fun w h => sadd_as (strOf (bsL (kindName o.ev.kind) ++ [32])) (by rw [c32_data, kd_bs]) (by rw [strOf_size]; simp only [List.length_append, List.length_cons, List.length_nil]; omega) ⟨rfl, rfl⟩) ?_
    refine pass_rule _ (fun w h => sadd_as (strOf (bsL (kindName o.ev.kind) ++ [32] ++ Lib.itoa o.loan)) (by rw [strOf_app]) (by rw [strOf_size]; simp only [List.length_append, List.length_cons, List.length_nil]; omega) ⟨rfl, rfl⟩) ?_
    refine pass_rule _ (fun w h => sadd_as (strOf (bsL (kindName o.ev.kind) ++ [32] ++ Lib.itoa o.loan ++ [32])) (by rw [c32_data, strOf_app]) (by rw [strOf_size]; simp only [List.length_append, List.length_cons, List.length_nil]; omega) ⟨rfl, rfl⟩) ?_
    refine pass_rule _ (fun w h => sadd_as (strOf (bsL (kindName o.ev.kind) ++ [32] ++ Lib.itoa o.loan ++ [32] ++ Lib.itoa o.ev.seq)) (by rw [strOf_app]) (by rw [strOf_size]; simp only [List.length_append, List.length_cons, List.length_nil]; omega) ⟨rfl, rfl⟩) ?_
    refine pass_rule _ (fun w h => sadd_as (strOf (bsL (kindName o.ev.kind) ++ [32] ++ Lib.itoa o.loan ++ [32] ++ Lib.itoa o.ev.seq ++ [32])) (by rw [c32_data, strOf_app]) (by rw [strOf_size]; simp only [List.length_append, List.length_cons, List.length_nil]; omega) ⟨rfl, rfl⟩) ?_
    refine pass_rule _ (fun w h => sadd_as (strOf (bsL (kindName o.ev.kind) ++ [32] ++ Lib.itoa o.loan ++ [32] ++ Lib.itoa o.ev.seq ++ [32] ++ datL a.1 a.2.1 a.2.2)) (by rw [strOf_app]) (by rw [strOf_size]; simp only [List.length_append, List.length_cons, List.length_nil]; omega) ⟨rfl, rfl⟩) ?_
    refine done_rule fun w4 H4 => ?_
    refine load_rule tok H4 (v := .int .u8 o.ev.kind) rfl ?_
    refine brd (fun q => ?_) (fun q => ?_)
    · have q : o.ev.kind < 7 := q
      have lc := coin_len _ hin.ev.amt
      refine load_rule tok H4 (v := .int .i64 o.ev.amt) rfl ?_
      refine call_rule H4 (fun M I _ h => refCoin o.ev.amt (by omega) (by omega) _ M I h) fun _ w5 _ H5 => ?_
      refine sadd_as (strOf ([32] ++ coinL o.ev.amt)) (by rw [c32_data, strOf_app]) (by rw [strOf_size]; simp only [List.length_append, List.length_cons, List.length_nil]; omega) ?_
      refine sadd_as (strOf (bsL (kindName o.ev.kind) ++ [32] ++ Lib.itoa o.loan ++ [32] ++ Lib.itoa o.ev.seq ++ [32] ++ datL a.1 a.2.1 a.2.2 ++ ([32] ++ coinL o.ev.amt))) (by rw [strOf_app]) (by rw [strOf_size]; simp only [List.length_append, List.length_cons, List.length_nil]; omega) ?_
      exact Exists.intro _ (And.intro rfl (And.intro (refT2 k ha.1 ha.2 (by omega)) (Hp.keep H5)))
    · have q : ¬ o.ev.kind < 7 := q
      exact Exists.intro _ (And.intro rfl (And.intro (refT2' k ha.1 ha.2 (by omega)) (Hp.keep H4)))
  · have k := c3.1
    refine br (fun q => absurd (show (o.kind == 1) = true from q) (by rw [k]; decide)) (fun _ => ?_)
    refine br (fun q => absurd (show (o.kind == 2) = true from q) (by rw [k]; decide)) (fun _ => ?_)
    refine br (fun _ => ?_) (fun q => absurd (show (o.kind == 3) = false from q) (by rw [k]; decide))
    refine sadd_as (strOf (wRev ++ [32] ++ Lib.itoa o.loan)) (by rw [show (⟨#[114, 101, 118, 101, 114, 115, 101, 32]⟩ : ByteArray) = strOf (wRev ++ [32]) from rfl, strOf_app]) (by rw [strOf_size]; simp only [List.length_append, List.length_cons, List.length_nil]; omega) ?_
    refine sadd_as (strOf (wRev ++ [32] ++ Lib.itoa o.loan ++ [32])) (by rw [c32_data, strOf_app]) (by rw [strOf_size]; simp only [List.length_append, List.length_cons, List.length_nil]; omega) ?_
    refine sadd_as (strOf (wRev ++ [32] ++ Lib.itoa o.loan ++ [32] ++ Lib.itoa o.ev.seq)) (by rw [strOf_app]) (by rw [strOf_size]; simp only [List.length_append, List.length_cons, List.length_nil]; omega) ?_
    exact Exists.intro _ (And.intro rfl (And.intro (refT3 k) (Hp.keep H3)))
  · have k := c4.1
    refine br (fun q => absurd (show (o.kind == 1) = true from q) (by rw [k]; decide)) (fun _ => ?_)
    refine br (fun q => absurd (show (o.kind == 2) = true from q) (by rw [k]; decide)) (fun _ => ?_)
    refine br (fun q => absurd (show (o.kind == 3) = true from q) (by rw [k]; decide)) (fun _ => ?_)
    exact Exists.intro _ (And.intro rfl (And.intro (refT4 k) (Hp.keep H3)))
theorem refOdTextS (o : Od) (hin : OdIn o) (ho : odB o = true) (s : ByteArray) (hs : OdT o s) (w : World) (M I : BS) (H : Hp ⟨w, M, I⟩ [] [] w) :
    Ctr Tryz.prog 21 [roV o] w M I (fun _ : Unit => .string s) (fun _ => True) (fun _ => []) (fun _ => []) :=
  (refOdText o hin ho w M I H).imp fun a w' hφ hh => ⟨(), by rw [OdT.uniq hφ hs], trivial, hh⟩
theorem odTextNoS (o : Od) (ho : odB o = false) (s : ByteArray) (hs : s = ⟨#[]⟩) (w : World) (M I : BS) (H : Hp ⟨w, M, I⟩ [] [] w) :
    Ctr Tryz.prog 18 [odV o] w M I (fun _ : Unit => .string s) (fun _ => True) (fun _ => []) (fun _ => []) := by
  rw [hs]; exact odTextNo o ho w M I H
theorem refOdRightT (o : Od) (hin : OdIn o) (h : odB o = true) : CB 14 [roV o] (.bool true) := h ▸ refOdRight o hin
theorem refOdRightF (o : Od) (hin : OdIn o) (h : odB o = false) : CB 14 [roV o] (.bool false) := h ▸ refOdRight o hin
set_option maxHeartbeats 8000000 in
set_option maxRecDepth 20000 in
theorem readsOd (o : Od) (hin : OdIn o) (s : ByteArray) (w : World) (M I : BS) (hM : ∀ b, ¬ M b) (H : Hp ⟨w, M, I⟩ [] [Glob 1 errTy, LibF] w) :
    Ctr Tryz.prog 5 [odV o, .string s] w M I (fun _ : Unit => .bool true) (fun _ => True) (fun _ => []) (fun _ => []) := by
  obtain ⟨l, rfl⟩ : ∃ l, s = strOf l := ⟨s.data.toList, (strOf_of s).symm⟩
  have hl : (l.take 120).length ≤ 120 := by rw [List.length_take]; omega
  obtain ⟨s0, hs0⟩ : ∃ s0 : ByteArray, s0 = ⟨#[]⟩ := ⟨_, rfl⟩
  refine Exe.of_ev tok Tryz.call5 Tryz.func5 rfl rfl rfl ?_
  refine box_as H (odC o) rfl fun r w1 H1 => ?_
  refine call_rule H1 (fun M I h0 h => awake20 _ M I (h0 rfl) h) fun _ w2 _ H2 => ?_
  refine call_rule H2 (fun M I _ h => refCut 120 (by decide) l _ M I h) fun _ w3 _ H3 => ?_
  have H3 : Hp ⟨w, M, I⟩ [blk r (odC o) 32] [Glob 1 errTy, LibF] w3 := Hp.keep H3
  refine load_rule tok H3 (v := odV o) rfl ?_
  refine call_rule H3 (fun M I _ h => ownOd o hin _ M I h) fun _ w5 _ H5 => ?_
  refine Or.elim (show odB o = true ∨ odB o = false by cases odB o <;> simp) (fun ho => ?_) (fun ho => ?_)
  · refine call_rule H5 (fun M I _ h => refOdRightT o hin ho _ M I h) fun _ w6 _ H6 => ?_
    refine load_rule tok H6 (v := odV o) rfl ?_
    refine call_rule H6 (fun M I _ h => odText o hin ho _ M I h) fun x w7 hx H7 => ?_
    refine call_rule H7 (fun M I h0 h => odReadYesS x o ho hin hx _ M I (h0 rfl) h) fun _ w8 _ H8 => ?_
    refine alloc_as tok H8 (odC od0) rfl rfl rfl fun e1 w9 H9 => ?_
    refine store_as tok H9 (odC o) rfl rfl rfl rfl rfl fun wq Hq => ?_
    have Hq : Hp ⟨w, M, I⟩ [blk e1 (odC o) 32, blk r (odC o) 32] [Glob 1 errTy, LibF] wq := Hp.keep Hq
    refine draw_rule (A := []) tok tdr Hq [0, 1, 2, 3, 4, 5, 6, 7, 8, 9, 10, 11, 12, 13, 14] [0, 1, 0, 7, 15, 31, 63, 127, 255, 511, 1023, 2047, 2047, 8191, 16383] rfl ?_
    refine pass_rule _ (fun w h => load_rule tok h (v := odV o) rfl ⟨rfl, rfl⟩) ?_
    refine imp_rule (fun X wx h => call_rule h (fun M I _ h => odTextS o hin ho x hx _ M I h) fun _ w1 _ H1 => imp_done H1 ?_)
    refine pass_rule _ (fun w h => load_rule tok h (v := odV o) rfl ⟨rfl, rfl⟩) ?_
    refine imp_rule (fun X wx h => call_rule h (fun M I _ h => ownOd o hin _ M I h) fun _ w1 _ H1 => imp_done H1 ?_)
    refine imp_rule (fun X wx h => call_rule h (fun M I _ h => refOdTextS o hin ho x hx _ M I h) fun _ w1 _ H1 => imp_done H1 ?_)
    refine br (fun q1 => absurd (show (!eqS x x) = true from q1) (by rw [eqS_self]; simp)) (fun q1 => ?_)
    refine pass_rule _ (fun w h => load_rule tok h (v := odV o) rfl ⟨rfl, rfl⟩) ?_
    refine pass_rule _ (fun w h => load_rule tok h (v := odV o) rfl ⟨rfl, rfl⟩) ?_
    refine pass_rule _ (fun w h => neN_struct tok oksL 3 (r := odEq o o) okS2 rfl guard32 (odEqV o o) ⟨rfl, rfl⟩) ?_
    have est : odEq o o = true := odEq_iff.2 rfl
    refine done_rule fun wr Hr => ?_
    refine br (fun q3 => absurd (show (!odEq o o) = true from q3) (by rw [est]; simp)) (fun q3 => ?_)
    have H12 : Hp ⟨w, M, I⟩ [] [Glob 1 errTy, LibF] _ := Hp.keep Hr
    refine Or.elim (Classical.em (∃ T, odB T = true ∧ OdIn T ∧ OdT T (strOf (l.take 120)))) (fun hy => ?_) (fun hy => ?_)
    · refine Exists.elim hy fun T hT => ?_
      have ok2 := hT.1
      have hin2 := hT.2.1
      have ht2 := hT.2.2
      refine call_rule H12 (fun M I h0 h => odReadYes (l.take 120) (by omega) T ok2 hin2 ht2 _ M I (h0 rfl) h) fun _ wa _ Ha => ?_
      refine alloc_as tok Ha (odC od0) rfl rfl rfl fun e wb Hb => ?_
      refine store_as tok Hb (odC T) rfl rfl rfl rfl rfl fun wc Hc => ?_
      refine load_rule tok Hc (v := odV T) rfl ?_
      refine call_rule Hc (fun M I _ h => odTextS T hin2 ok2 (strOf (l.take 120)) ht2 _ M I h) fun _ wd _ Hd => ?_
      refine br (fun q => ?_) (fun q => absurd (show eqS (strOf (l.take 120)) (strOf (l.take 120)) = false from q) (by rw [eqS_self]; simp))
      refine load_rule tok Hd (v := odV T) rfl ?_
      refine call_rule Hd (fun M I _ h => ownOd T hin2 _ M I h) fun _ we _ He => ?_
      refine call_rule He (fun M I _ h => refOdTextS T hin2 ok2 (strOf (l.take 120)) ht2 _ M I h) fun _ wf _ Hf => ?_
      exact Exists.intro () (And.intro (congrArg Value.bool (eqS_self (strOf (l.take 120)))) (And.intro trivial (Hp.keep Hf)))
    · refine call_rule H12 (fun M I h0 h => odReadNo (l.take 120) (by omega) hy _ M I (h0 rfl) h) fun _ wa _ Ha => ?_
      refine alloc_as tok Ha (odC od0) rfl rfl rfl fun e wb Hb => ?_
      refine store_as tok Hb (odC od0) rfl rfl rfl rfl rfl fun wc Hc => ?_
      refine call_rule Hc (fun M I _ h => code_ (.code 15) _ M I h) fun _ wd _ Hd => ?_
      refine load_rule tok Hd (v := odV od0) rfl ?_
      refine eqN_struct tok oksL 3 (r := true) okS2 rfl guard32 rfl ?_
      exact Exists.intro () (And.intro rfl (And.intro trivial (Hp.keep Hd)))
  · refine call_rule H5 (fun M I _ h => refOdRightF o hin ho _ M I h) fun _ w6 _ H6 => ?_
    refine load_rule tok H6 (v := odV o) rfl ?_
    refine call_rule H6 (fun M I _ h => odTextNoS o ho s0 hs0 _ M I h) fun _ w7 _ H7 => ?_
    refine br (fun q1 => absurd (show (!eqS s0 ⟨#[]⟩) = true from q1) (by rw [hs0, eqS_self]; simp)) (fun q1 => ?_)
    have H12 : Hp ⟨w, M, I⟩ [] [Glob 1 errTy, LibF] _ := Hp.keep H7
    refine Or.elim (Classical.em (∃ T, odB T = true ∧ OdIn T ∧ OdT T (strOf (l.take 120)))) (fun hy => ?_) (fun hy => ?_)
    · refine Exists.elim hy fun T hT => ?_
      have ok2 := hT.1
      have hin2 := hT.2.1
      have ht2 := hT.2.2
      refine call_rule H12 (fun M I h0 h => odReadYes (l.take 120) (by omega) T ok2 hin2 ht2 _ M I (h0 rfl) h) fun _ wa _ Ha => ?_
      refine alloc_as tok Ha (odC od0) rfl rfl rfl fun e wb Hb => ?_
      refine store_as tok Hb (odC T) rfl rfl rfl rfl rfl fun wc Hc => ?_
      refine load_rule tok Hc (v := odV T) rfl ?_
      refine call_rule Hc (fun M I _ h => odTextS T hin2 ok2 (strOf (l.take 120)) ht2 _ M I h) fun _ wd _ Hd => ?_
      refine br (fun q => ?_) (fun q => absurd (show eqS (strOf (l.take 120)) (strOf (l.take 120)) = false from q) (by rw [eqS_self]; simp))
      refine load_rule tok Hd (v := odV T) rfl ?_
      refine call_rule Hd (fun M I _ h => ownOd T hin2 _ M I h) fun _ we _ He => ?_
      refine call_rule He (fun M I _ h => refOdTextS T hin2 ok2 (strOf (l.take 120)) ht2 _ M I h) fun _ wf _ Hf => ?_
      exact Exists.intro () (And.intro (congrArg Value.bool (eqS_self (strOf (l.take 120)))) (And.intro trivial (Hp.keep Hf)))
    · refine call_rule H12 (fun M I h0 h => odReadNo (l.take 120) (by omega) hy _ M I (h0 rfl) h) fun _ wa _ Ha => ?_
      refine alloc_as tok Ha (odC od0) rfl rfl rfl fun e wb Hb => ?_
      refine store_as tok Hb (odC od0) rfl rfl rfl rfl rfl fun wc Hc => ?_
      refine call_rule Hc (fun M I _ h => code_ (.code 15) _ M I h) fun _ wd _ Hd => ?_
      refine load_rule tok Hd (v := odV od0) rfl ?_
      refine eqN_struct tok oksL 3 (r := true) okS2 rfl guard32 rfl ?_
      exact Exists.intro () (And.intro rfl (And.intro trivial (Hp.keep Hd)))
end Go.Proofs.YtgbmambkgcjhfaaGreatDoor
