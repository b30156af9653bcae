/- What the document's terms say is due, month by month: the walk; there is one such list. -/
import Derived.Test.YtjlfjjgjghdokaaGreatDoorD51
import Derived.Test.YtjlfjjgjghdokaaGreatDoorD52
set_option linter.unusedVariables false
namespace Go.Proofs.YtjlfjjgjghdokaaGreatDoor
open Go Go.Proofs Go.Wk Go.Pl
theorem rollR_one {hs : List Int} {s k : Int} {r r' : Option Int} (h : rollR hs s k r) (h' : rollR hs s k r') : r = r' := by
  obtain ⟨p, hp, hr⟩ := h
  obtain ⟨p', hp', hr'⟩ := h'
  obtain rfl := plainR_one hp hp'
  cases p with
  | none =>
    have a : r = none := hr
    have b : r' = none := hr'
    rw [a, b]
  | some n => exact nextR_one hr hr'
theorem DuesR.one {t : Tm} {hs : List Int} {i : Nat} {ds ds' : List (Int × Int)} (h : DuesR t hs i ds) (h' : DuesR t hs i ds') : ds = ds' := by
  refine List.ext_getElem? fun k => ?_
  by_cases hk : k < i
  · obtain ⟨d, s, q1, q2, q3⟩ := h.at_ k hk
    obtain ⟨d', s', q1', q2', q3'⟩ := h'.at_ k hk
    have e1 := Option.some.inj (rollR_one q1 q1')
    have e2 := Option.some.inj (q2.symm.trans q2')
    rw [q3, q3', e1, e2]
  · rw [List.getElem?_eq_none (by rw [h.len]; omega), List.getElem?_eq_none (by rw [h'.len]; omega)]
theorem sumsGo_at : ∀ (l : List (Int × Int × Int)) (s : Int) (i : Nat), i < l.length → (sumsGo s l)[i]? = some (tot s (l.take (i + 1)))
  | [], s, i, h => by cases h
  | x :: r, s, 0, h => rfl
  | x :: r, s, i + 1, h => sumsGo_at r _ i (Nat.lt_of_succ_lt_succ h)
/-- An open day. -/
theorem rollR_open {hs : List Int} {s k d : Int} (h : rollR hs s k (some d)) : openB hs d = true := by
  obtain ⟨p, hp, hr⟩ := h
  cases p with
  | none => cases hr
  | some n => exact hr.2.1
theorem refPlainS (s : Int) (k : Nat) (hs0 : 0 ≤ s) (hs1 : s ≤ 3600000) (hk : k ≤ 480) (w : World) (M I : BS) (H : Hp ⟨w, M, I⟩ [] [] w) :
    Ctr Tryz.prog 71 [.int .i64 s, .int .i64 (k : Int)] w M I (fun d : Int => .tuple #[.int .i64 d, .int .i64 0]) (fun d => plainR s k (some d) ∧ 0 ≤ d ∧ d ≤ 3640000) (fun _ => []) (fun _ => []) :=
  (refPlain s k hs0 (by omega) hk w M I H).imp fun a w' ha h => by
    obtain ⟨d, rfl, h0, h1⟩ := plainR_some hs0 hs1 (by omega) (by omega) ha
    exact ⟨d, rfl, ⟨ha, h0, h1⟩, h⟩
theorem refNextS (A : Option Addr) (n c : Nat) (hs : List Int) (d : Int) (h0 : 0 ≤ d) (h1 : d ≤ 3640000) (hl : hs.length ≤ 200) (w : World) (M I : BS) (H : Hp ⟨w, M, I⟩ [] [Sl (Go.Wk.intR .i64) (.slice A n c) hs] w) :
    Ctr Tryz.prog 72 [.slice A n c, .int .i64 d] w M I (fun x : Int => .int .i64 x) (fun x => nextR hs d (some x)) (fun _ => []) (fun _ => []) :=
  (refNextD A n c hs d h0 (by omega) w M I H).imp fun a w' ha h => by
    obtain ⟨x, rfl⟩ := nextR_some h0 h1 hl ha
    exact ⟨x, rfl, ha, h⟩
theorem refRows (kind p parts pay : Int) (b : Bool) (n : Nat) (hk : kind = 1 ∨ kind = 2) (hn : n ≤ 480) (h0 : 0 ≤ parts) (h1 : parts ≤ 1000000) (hJ0 : Jv kind parts n p pay) (w : World) (M I : BS) (hM : ∀ b, ¬ M b) (H : Hp ⟨w, M, I⟩ [] [] w) :
    Ctr Tryz.prog 69 [.bool (kind == 2), .int .i64 p, rrV parts b, .int .i64 n, .int .i64 pay] w M I (fun a : SV => .slice a.A a.n a.c) (fun _ => True) (fun _ => []) (fun a => [Sl row3R (.slice a.A a.n a.c) (rowsGo kind parts n p pay)]) := by
  rcases hk with rfl | rfl
  · exact refRowsLevel p parts pay b n hn h0 h1 hJ0 w M I hM H
  · exact refRowsOnly p parts pay b n hn h0 h1 hJ0 w M I hM H
@[reducible] def rdueC (x : Int × Int) : List Value := [.int .i64 x.1, .int .i64 x.2]
@[reducible] def rdueR : Rp (Int × Int) := ⟨2, Unit, fun x _ => rdueC x, fun _ _ => True, fun _ _ => [], fun _ _ => rfl⟩
set_option maxRecDepth 20000 in
set_option maxHeartbeats 2000000 in
theorem refDues (t : Tm) (hin : TmIn t) (ok : TmOk t) (A : Option Addr) (n c : Nat) (hs : List Int) (hlh : hs.length ≤ 200) (w : World) (M I : BS) (hM : ∀ b, ¬ M b) (H : Hp ⟨w, M, I⟩ [] [Sl (Go.Wk.intR .i64) (.slice A n c) hs] w) :
    Ctr Tryz.prog 34 [rtV t, .slice A n c] w M I (fun a : SV × List (Int × Int) => .slice a.1.A a.1.n a.1.c) (fun a => DuesR t hs t.months.toNat a.2) (fun _ => []) (fun a => [Sl rdueR (.slice a.1.A a.1.n a.1.c) a.2]) := by
  have hmo := ok.months
  have hst := ok.start
  have hpa := ok.parts
  have hp0 : 0 ≤ t.parts := hin.parts.1
  have em : ((t.months.toNat : Nat) : Int) = t.months := Int.toNat_of_nonneg (by omega)
  have hlv := tm_lv hin ok
  have hJ : Jv t.kind t.parts t.months.toNat t.prin (payV t.prin t.parts t.months.toNat) := Jv.start hlv hp0
  have hrows := refRows t.kind t.prin t.parts (payV t.prin t.parts t.months.toNat) (t.basis == 2) t.months.toNat ok.kind (by omega) hp0 hpa hJ
  rw [em] at hrows
  have hrl := rowsGo_len t.kind t.parts t.months.toNat t.prin (payV t.prin t.parts t.months.toNat)
  refine Exe.of_ev tok Tryz.call34 Tryz.func34 rfl rfl rfl ?_
  refine box_as H (rtC t) rfl fun r w1 H1 => ?_
  refine draw_rule (A := []) tok tdr H1 [5, 6, 9, 10, 0, 1, 2, 3, 4, 7, 8, 11, 12, 13] [0, 1, 3, 0, 8, 0, 32, 0, 128, 0, 608, 2047, 4095, 0] rfl ?_
  refine pass_rule _ (fun w h => load_rule tok h (v := rtV t) rfl ⟨rfl, rfl⟩) ?_
  refine imp_rule (fun X wx h => call_rule h (fun M I _ h => refRate t _ M I h) fun _ w1 _ H1 => imp_done H1 ?_)
  refine pass_rule _ (fun w h => load_rule tok h (v := rtV t) rfl ⟨rfl, rfl⟩) ?_
  refine imp_rule (fun X wx h => call_rule h (fun M I _ h => refPay t hin ok _ M I h) fun _ w1 _ H1 => imp_done H1 ?_)
  refine pass_rule _ (fun w h => load_rule tok h (v := .int .u8 t.kind) rfl ⟨rfl, rfl⟩) ?_
  refine pass_rule _ (fun w h => load_rule tok h (v := .int .i64 t.prin) rfl ⟨rfl, rfl⟩) ?_
  refine pass_rule _ (fun w h => load_rule tok h (v := .int .i64 t.months) rfl ⟨rfl, rfl⟩) ?_
  refine imp_rule (fun X wx h => call_rule h (fun M I h0 h => hrows _ M I (h0 rfl) h) fun rw_ w1 _ H1 => imp_done H1 ?_)
  refine done_rule fun w2 H2 => ?_
  generalize hR : rowsGo t.kind t.parts t.months.toNat t.prin (payV t.prin t.parts t.months.toNat) = rows_ at H2 hrl
  have hts : tmSums t = sumsGo 0 rows_ := by unfold tmSums; rw [hR]
  have H2 : Hp ⟨w, M, I⟩ [blk r (rtC t) 33] [Sl row3R (.slice rw_.A rw_.n rw_.c) rows_, Sl (Go.Wk.intR .i64) (.slice A n c) hs] w2 := Hp.keep H2
  have hrn := (H2.sll (A := rw_.A) (n := rw_.n) (c := rw_.c)).1
  have hok : ∀ x, x ∈ rows_ → r3ok x := fun x hx => by
    obtain ⟨I2, fp, _, ha, _⟩ := H2.ex
    obtain ⟨A', c', _, _, _, _, hel⟩ := ha _ List.mem_cons_self
    obtain ⟨i, hi⟩ := List.mem_iff_getElem?.1 hx
    obtain ⟨b, o, _, _, p, hok, _⟩ := hel i x hi
    exact hok
  have H3 : Hp ⟨w, M, I⟩ [row 97 2 (.slice none 0 0) 0 (flatL rdueC []), blk r (rtC t) 33] [Sl row3R (.slice rw_.A rw_.n rw_.c) rows_, Sl (Go.Wk.intR .i64) (.slice A n c) hs] w2 := Hp.nil H2 97 2
  refine loop_rule tok (σ := List (Int × Int) × SV) 9007199237965792 (fun s => [(5, .slice s.2.A s.1.length s.2.c), (6, .int .i64 (tot 0 (rows_.take s.1.length))), (24, .int .i64 (s.1.length : Int))])
    (fun s w' => s.1.length ≤ rw_.n ∧ DuesR t hs s.1.length s.1 ∧ Hp ⟨w, M, I⟩ [row 97 2 (.slice s.2.A s.1.length s.2.c) s.1.length (flatL rdueC s.1), blk r (rtC t) 33] [Sl row3R (.slice rw_.A rw_.n rw_.c) rows_, Sl (Go.Wk.intR .i64) (.slice A n c) hs] w') (fun s => rw_.n - s.1.length) ([], ⟨none, 0, 0⟩) rfl rfl ⟨rfl, rfl, rfl, trivial⟩ ⟨Nat.zero_le _, ⟨rfl, fun k hk => absurd hk (Nat.not_lt_zero _)⟩, H3⟩ ?_
  intro s j w6 hW
  have hi := hW.1
  have hDR := hW.2.1
  have H7 := hW.2.2
  refine brd (fun hlt => ?_) (fun hge => ?_)
  · have ew : IntKind.i64.wrap ((s.1.length : Int) + 1) = ((s.1.length + 1 : Nat) : Int) := i64w (by omega) (by omega)
    refine idx_rule tok H7 rfl rfl rfl (by omega) hlt fun eb eo x hx H8 => ?_
    have hx' : rows_[s.1.length]? = some x := by simpa using hx
    have htk : rows_.take (s.1.length + 1) = rows_.take s.1.length ++ [x] := by rw [List.take_add_one, hx']; rfl
    have hxo := hok x (List.mem_of_getElem? hx')
    have hxo1 := hxo.1
    have hxo2 := hxo.2.1
    have hb := tot_bd (rows_.take (s.1.length + 1)) 0 0 (fun y hy => hok y (List.mem_of_mem_take hy)) (by omega) (by omega)
    have hlen : (rows_.take (s.1.length + 1)).length ≤ 1000 := by rw [List.length_take]; omega
    have e1 : IntKind.i64.wrap (x.1 + x.2.1) = x.1 + x.2.1 := i64w (by omega) (by omega)
    have es : IntKind.i64.wrap (tot 0 (rows_.take s.1.length) + IntKind.i64.wrap (x.1 + x.2.1)) = tot 0 (rows_.take (s.1.length + 1)) := by
      have hlen2 := hlen
      rw [htk] at hlen2
      rw [e1, htk, tot_snoc]
      rw [htk, tot_snoc] at hb
      exact i64w (by omega) (by omega)
    have hsm : (tmSums t)[s.1.length]? = some (tot 0 (rows_.take (s.1.length + 1))) := by rw [hts]; exact sumsGo_at _ _ _ (by omega)
    refine ldp_rule tok H8 rfl rfl rfl fun _ _ H9 => ?_
    refine alloc_as tok H9 (row3C (0, 0, 0)) rfl rfl rfl fun o w7 Ha => ?_
    refine store_as tok Ha (row3C x) rfl rfl rfl rfl rfl fun w8 Hb => ?_
    refine load_rule tok Hb (v := .int .i64 x.1) rfl ?_
    refine load_rule tok Hb (v := .int .i64 x.2.1) rfl ?_
    refine load_rule tok Hb (v := .int .i64 t.start) rfl ?_
    refine call_rule Hb (fun M I _ h => ew.symm ▸ refPlainS t.start (s.1.length + 1) hst.1 hst.2 (by omega) _ M I h) fun d w9 hd Hc => ?_
    refine call_rule Hc (fun M I _ h => refNextS A n c hs d hd.2.1 hd.2.2 hlh _ M I h) fun x2 wa hx2 Hd => ?_
    have hd1 : plainR t.start ((s.1.length : Int) + 1) (some d) := by have h := hd.1; rw [ew] at h; exact h
    have hro : rollR hs t.start ((s.1.length : Int) + 1) (some x2) := ⟨some d, hd1, hx2⟩
    refine slice_as tok Hd (rdueC (x2, IntKind.i64.wrap (tot 0 (rows_.take s.1.length) + IntKind.i64.wrap (x.1 + x.2.1)))) rfl rfl rfl rfl rfl rfl fun g2 wb He => ?_
    rw [es] at He
    refine append_rule (v := .slice s.2.A s.1.length s.2.c) (b := g2) (m := 1) (c := 1) tok He rfl rfl rfl rfl rfl rfl rfl rfl (by show (s.1.length + 1) * 16 ≤ _; omega) (by omega) fun A2 c2 wc Hf => ?_
    have el : (s.1 ++ [(x2, tot 0 (rows_.take (s.1.length + 1)))]).length = s.1.length + 1 := by simp
    have Hg : Hp ⟨w, M, I⟩ [row 97 2 (.slice A2 (s.1.length + 1) c2) (s.1.length + 1) (flatL rdueC s.1 ++ rdueC (x2, tot 0 (rows_.take (s.1.length + 1)))), blk r (rtC t) 33] [Sl row3R (.slice rw_.A rw_.n rw_.c) rows_, Sl (Go.Wk.intR .i64) (.slice A n c) hs] wc := Hp.keep Hf
    rw [← flatL_snoc, ← el] at Hg
    rw [el] at Hg
    exact Exists.intro (s.1 ++ [(x2, tot 0 (rows_.take (s.1.length + 1)))], ⟨A2, 0, c2⟩) (And.intro ⟨congrArg (fun k => Value.slice A2 k c2) el.symm, congrArg (Value.int .i64) (by rw [es, el]), congrArg (Value.int .i64) (by rw [ew, el]), trivial⟩ (And.intro (by show rw_.n - (s.1 ++ [(x2, tot 0 (rows_.take (s.1.length + 1)))]).length < rw_.n - s.1.length; omega) ⟨by show (s.1 ++ [(x2, tot 0 (rows_.take (s.1.length + 1)))]).length ≤ rw_.n; omega, by show DuesR t hs (s.1 ++ [(x2, tot 0 (rows_.take (s.1.length + 1)))]).length _; rw [el]; exact hDR.snoc hro hsm, by show Hp _ [row 97 2 (.slice A2 (s.1 ++ [(x2, tot 0 (rows_.take (s.1.length + 1)))]).length c2) (s.1 ++ [(x2, tot 0 (rows_.take (s.1.length + 1)))]).length (flatL rdueC (s.1 ++ [(x2, tot 0 (rows_.take (s.1.length + 1)))])), _] _ _; rw [el]; exact Hg⟩))
  · have en : s.1.length = t.months.toNat := by omega
    have H8 := Hp.frzFlat (v := .slice s.2.A s.1.length s.2.c) H7 2 rdueC (fun _ => rfl) (fun _ => True) hM (by decide) (fun _ _ => trivial)
    exact Exists.intro (⟨s.2.A, s.1.length, s.2.c⟩, s.1) (And.intro rfl (And.intro (en ▸ hDR) (Hp.keep H8)))
end Go.Proofs.YtjlfjjgjghdokaaGreatDoor
