/- TermsForms: the walk. Printed by gen35.py. -/
import Derived.Test.YtgbmambkgcjhfaaGreatDoorD34
import Derived.Test.YtgbmambkgcjhfaaGreatDoorG6
set_option linter.unusedVariables false
namespace Go.Proofs.YtgbmambkgcjhfaaGreatDoor
open Go Go.Proofs Go.Wk Go.Pl
theorem bytes_ok {w : World} {B : Base} {S : List Asn} {F : List Fact} (H : Hp B S F w) {A : Option Addr} {n c : Nat} {bs : List Nat} [hp : InSl F A n c byteR bs] : byteIn bs := fun x hx => by
  obtain ⟨I, fp, _, ha, _⟩ := H.ex
  obtain ⟨A', c', _, _, _, _, hel⟩ := ha _ hp.mem
  obtain ⟨i, hi⟩ := List.mem_iff_getElem?.1 hx
  obtain ⟨b, o, _, _, p, hok, _⟩ := hel i x hi
  exact hok
theorem parseYes (A : Option Addr) (n c : Nat) (bs : List Nat) (hn : bs.length ≤ 1000000) (hp : byteIn bs) (h : (paEnd bs && tmB (paT bs)) = true) (w : World) (M I : BS) (H : Hp ⟨w, M, I⟩ [] [Sl byteR (.slice A n c) bs] w) :
    Ctr Tryz.prog 39 [.slice A n c] w M I (fun _ : Unit => .tuple #[tmV (paT bs), .nilIface]) (fun _ => True) (fun _ => []) (fun _ => []) :=
  (tmParse A n c bs hn hp w M I H).imp fun a w' hφ hh => by
    rcases hφ with ⟨e1, e2, _, _⟩ | ⟨_, _, e3⟩
    · exact ⟨(), by unfold teV; rw [e1, e2]; rfl, trivial, hh⟩
    · rw [h] at e3; cases e3
theorem parseNo (A : Option Addr) (n c : Nat) (bs : List Nat) (hn : bs.length ≤ 1000000) (hp : byteIn bs) (h : (paEnd bs && tmB (paT bs)) = false) (w : World) (M I : BS) (H : Hp ⟨w, M, I⟩ [] [Sl byteR (.slice A n c) bs] w) :
    Ctr Tryz.prog 39 [.slice A n c] w M I (fun _ : Unit => .tuple #[tmV tm0, .iface 55 (.int .i64 2)]) (fun _ => True) (fun _ => []) (fun _ => []) :=
  (tmParse A n c bs hn hp w M I H).imp fun a w' hφ hh => by
    rcases hφ with ⟨_, _, e3, e4⟩ | ⟨e1, e2, _⟩
    · rw [e3, e4] at h; cases h
    · exact ⟨(), by unfold teV; rw [e1, e2]; rfl, trivial, hh⟩
theorem parseTm (t : Tm) (ok : TmOk t) (hin : TmIn t) (A : Option Addr) (n c : Nat) (w : World) (M I : BS) (H : Hp ⟨w, M, I⟩ [] [Sl byteR (.slice A n c) (tmBytes t)] w) :
    Ctr Tryz.prog 39 [.slice A n c] w M I (fun _ : Unit => .tuple #[tmV t, .nilIface]) (fun _ => True) (fun _ => []) (fun _ => []) := by
  have hf := tm_fit ok hin
  obtain ⟨e1, e2⟩ := pa_tm ok hin
  have hl := tmBytes_len hf
  have h := parseYes A n c (tmBytes t) (by omega) (tmBytes_lt hf) (by rw [e2, e1, tmB_iff.2 ok]; rfl) w M I H
  rw [e1] at h
  exact h
theorem joinOne (g : Nat) (bs : List Nat) (hl : bs.length ≤ 1000000) (h0 : 0 < bs.length) (w : World) (M I : BS) (H : Hp ⟨w, M, I⟩ [] [Sl bytesR (.slice (some ⟨g, 0, none⟩) 1 1) [bs]] w) :
    Ctr Tryz.prog 34 [.slice (some ⟨g, 0, none⟩) 1 1] w M I (fun a : Nat × Nat × Nat => .slice (some ⟨a.1, 0, none⟩) a.2.1 a.2.2) (fun a => a.2.1 = bs.length) (fun a => [row 5 1 (.slice (some ⟨a.1, 0, none⟩) a.2.1 a.2.2) a.2.1 (byC bs)]) (fun _ => []) :=
  (join (some ⟨g, 0, none⟩) 1 1 [bs] (by simp; exact hl) w M I H).imp fun a w' hφ hh => by
    have efl : [bs].flatten = bs := by simp
    rw [efl] at hφ hh
    obtain ⟨b3, e⟩ := hh.rowSome (A := a.A) (n := a.n) (c := a.c) (by omega)
    rw [e] at hh
    exact ⟨(b3, a.n, a.c), by rw [e], hφ, hh⟩
set_option maxRecDepth 20000 in
set_option maxHeartbeats 4000000 in
theorem formsWalk (t : Tm) (hin : TmIn t) (B : Option Addr) (m d : Nat) (raw : List Nat) (at_ turn : Int) (hat : inK .u16 at_) (hturn : inK .u8 turn) (w : World) (M I : BS) (hM : ∀ b, ¬ M b) (H : Hp ⟨w, M, I⟩ [] [Sl byteR (.slice B m d) raw, Glob 1 errTy, LibF] w) :
    Ctr Tryz.prog 11 [tmV t, .slice B m d, .int .u16 at_, .int .u8 turn] w M I (fun _ : Unit => .bool true) (fun _ => True) (fun _ => []) (fun _ => []) := by
  have hraw := bytes_ok (A := B) (n := m) (c := d) H
  refine Exe.of_ev tok Tryz.call11 Tryz.func11 rfl rfl rfl ?_
  refine box_as H (tmC t) rfl fun x w1 H1 => ?_
  refine call_rule H1 (fun M I h0 h => awake16 _ M I (h0 rfl) h) fun _ w2 _ H2 => ?_
  refine call_rule H2 (fun M I h0 h => cutN 40 (by decide) B m d raw _ M I (h0 rfl) h hraw) fun s0 w3 _ H3 => ?_
  have H3 : Hp ⟨w, M, I⟩ [blk x (tmC t) 28] [Sl byteR (svV s0) (raw.take 40), Glob 1 errTy] w3 := Hp.keep H3
  refine load_rule tok H3 (v := tmV t) rfl ?_
  refine Or.elim (show tmB t = true ∨ tmB t = false by cases tmB t <;> simp) (fun hr => ?_) (fun hr => ?_)
  · have ok := tmB_iff.1 hr
    have hf := tm_fit ok hin
    have hib := tmBytes_lt hf
    have hlb := tmBytes_len hf
    have hrt : rtB t = true := by rw [rtB_eq]; exact hr
    refine call_rule H3 (fun M I h0 h => tmBytesW t hin hr _ M I (h0 rfl) h) fun pv w5 _ H5 => ?_
    refine load_rule tok H5 (v := tmV t) rfl ?_
    refine call_rule H5 (fun M I _ h => ownTm t hin _ M I h) fun _ w6 _ H6 => ?_
    refine call_rule H6 (fun M I _ h => refRight t hin _ M I h) fun _ w7 _ H7 => ?_
    have H7 : Hp ⟨w, M, I⟩ [blk x (tmC t) 28] [Sl byteR (svV pv) (tmBytes t), Sl byteR (svV s0) (raw.take 40), Glob 1 errTy] w7 := Hp.keep H7
    obtain ⟨hpn, _, _⟩ := H7.sll (A := pv.A) (n := pv.n) (c := pv.c)
    refine br (fun q => ?_) (fun q => ?_)
    · have q : (rtB t != decide ((0 : Int) < (pv.n : Int))) = true := q
      exact absurd q (by rw [hrt, decide_eq_true (by omega)]; simp)
    refine brd (fun q1 => ?_) (fun q1 => absurd (show (0 : Int) < (pv.n : Int) by omega) q1)
    refine call_rule H7 (fun M I h0 h => parseTm t ok hin pv.A pv.n pv.c _ M I h) fun _ w8 _ H8 => ?_
    refine alloc_as tok H8 (tmC tm0) rfl rfl rfl fun xx w9 H9 => ?_
    refine store_as tok H9 (tmC t) rfl rfl rfl rfl rfl fun w10 H10 => ?_
    refine load_rule tok H10 (v := tmV t) rfl ?_
    refine call_rule H10 (fun M I h0 h => ownTm t hin _ M I h) fun _ w11 _ H11 => ?_
    refine call_rule H11 (fun M I h0 h => refBytes t hf _ M I (h0 rfl) h) fun rb w12 _ H12 => ?_
    refine call_rule H12 (fun M I _ h => sameBytes pv.A rb.A pv.n pv.c rb.n rb.c (tmBytes t) (tmBytes t) _ M I h ⟨hpn, by omega⟩ (Hp.sll (A := rb.A) (n := rb.n) (c := rb.c) h).1) fun _ w13 _ H13 => ?_
    have esb : byEq (tmBytes t) (tmBytes t) = true := byEq_iff.2 rfl
    refine br (fun q2 => absurd q2 (by rw [esb]; simp)) (fun q2 => ?_)
    refine load_rule tok H13 (v := tmV t) rfl ?_
    refine load_rule tok H13 (v := tmV t) rfl ?_
    refine neN_struct tok [28, 25] 2 (r := tmEq t t) okS rfl guard28 (tmEqV t t) ?_
    have est : tmEq t t = true := tmEq_iff.2 rfl
    refine br (fun q3 => absurd (show (!tmEq t t) = true from q3) (by rw [est]; simp)) (fun q3 => ?_)
    refine slice_as tok H13 [svV pv] rfl rfl rfl rfl rfl rfl fun gp w14 H14 => ?_
    have H15 := frzSl H14 (g := gp) [(pv, tmBytes t)] 1 [tmBytes t] rfl rfl rfl hM rfl (by
      intro q hq
      simp only [List.mem_cons, List.not_mem_nil, or_false] at hq
      subst hq; simp)
    have efl : [tmBytes t].flatten = tmBytes t := by simp
    refine call_rule H15 (fun M I _ h => joinOne gp (tmBytes t) (by omega) (by omega) _ M I h) fun bv w15 hb H16 => ?_
    have hb : bv.2.1 = (tmBytes t).length := hb
    have H16 : Hp ⟨w, M, I⟩ [row 5 1 (.slice (some ⟨bv.1, 0, none⟩) bv.2.1 bv.2.2) bv.2.1 (byC (tmBytes t))] [Sl byteR (svV pv) (tmBytes t), Sl byteR (svV s0) (raw.take 40), Glob 1 errTy] w15 := Hp.keep H16
    have hat2 : 0 ≤ at_ ∧ at_ ≤ 65535 := hat
    refine Exists.elim (show ∃ an : Nat, at_ = an from ⟨at_.toNat, by omega⟩) fun an han => ?_
    have hjn : an % bv.2.1 < bv.2.1 := Nat.mod_lt _ (by omega)
    refine rem_as ((an % bv.2.1 : Nat) : Int) (by show (bv.2.1 : Int) ≠ 0; omega) (by
      show (IntKind.i64.wrap at_).tmod (bv.2.1 : Int) = _
      rw [han, w64 (by omega) (by omega)]
      exact (Int.ofNat_tmod an bv.2.1).symm) ?_
    have hgx : ∃ bx : Nat, bx < 256 ∧ ldV (tb 5) (byC (tmBytes t)) (0 + an % bv.2.1 * 1) = some (.int .u8 (bx : Int)) := by
      have hlt : an % bv.2.1 < (tmBytes t).length := by omega
      refine ⟨(tmBytes t)[an % bv.2.1], hib _ (List.getElem_mem _), ?_⟩
      show (byC (tmBytes t))[0 + an % bv.2.1 * 1]? = _
      rw [Nat.zero_add, Nat.mul_one]
      simp [byC, hlt]
    refine Exists.elim hgx fun bx hgx2 => ?_
    have hbx := hgx2.1
    have hget := hgx2.2
    refine idx_own tok rfl rfl (show (0 : Int) ≤ ((an % bv.2.1 : Nat) : Int) by omega) (show ((an % bv.2.1 : Nat) : Int) < bv.2.1 by omega) ?_
    refine row_ld tok H16 (.int .u8 (bx : Int)) hget ?_
    have hxor : ∃ z : Nat, z < 256 ∧ IntKind.u8.wrap (BitVec.ofInt IntKind.u8.bits (bx : Int) ^^^ BitVec.ofInt IntKind.u8.bits turn).toNat = (z : Int) := ⟨(BitVec.ofInt IntKind.u8.bits (bx : Int) ^^^ BitVec.ofInt IntKind.u8.bits turn).toNat % 256, Nat.mod_lt _ (by decide), wrap_u8 _⟩
    refine Exists.elim hxor fun z hz => ?_
    refine xor_as (z : Int) hz.2 ?_
    refine idx_own tok rfl rfl (show (0 : Int) ≤ ((an % bv.2.1 : Nat) : Int) by omega) (show ((an % bv.2.1 : Nat) : Int) < bv.2.1 by omega) ?_
    refine row_st tok H16 rfl rfl (by show 0 + an % bv.2.1 * 1 + 1 ≤ (byC (tmBytes t)).length; simp [byC]; omega) rfl fun w16 H17 => ?_
    have H17 : Hp ⟨w, M, I⟩ [row 5 1 (.slice (some ⟨bv.1, 0, none⟩) bv.2.1 bv.2.2) bv.2.1 (setL (byC (tmBytes t)) (0 + an % bv.2.1 * 1) [.int .u8 (z : Int)])] [Sl byteR (svV pv) (tmBytes t), Sl byteR (svV s0) (raw.take 40), Glob 1 errTy] w16 := H17
    have eset : setL (byC (tmBytes t)) (0 + an % bv.2.1 * 1) [.int .u8 (z : Int)] = byC ((tmBytes t).set (an % bv.2.1) z) := by
      rw [Nat.zero_add, Nat.mul_one]
      show (byC (tmBytes t)).set (an % bv.2.1) (.int .u8 (z : Int)) = _
      simp [byC, List.map_set]
    rw [eset] at H17
    have hbin : byteIn ((tmBytes t).set (an % bv.2.1) z) := fun y hy => by
      rcases List.mem_or_eq_of_mem_set hy with hy | rfl
      · exact hib y hy
      · exact hz.1
    have H18 := frzBytes H17 (v := .slice (some ⟨bv.1, 0, none⟩) bv.2.1 bv.2.2) ((tmBytes t).set (an % bv.2.1) z) hM hbin
    -- what is read of whatever bytes
    refine slice_as tok H18 [.int .u8 0] rfl rfl rfl rfl rfl rfl fun gz wa Ha => ?_
    have Hb := frzByte Ha (g := gz) (x := 0) rfl (by decide) hM
    refine slice_as tok Hb [svV pv, .slice (some ⟨gz, 0, none⟩) 1 1] rfl rfl rfl rfl rfl rfl fun gy wb Hc => ?_
    have Hd := frzSl Hc (g := gy) [(pv, (tmBytes t)), (⟨some ⟨gz, 0, none⟩, 1, 1⟩, [0])] 2 [(tmBytes t), [0]] rfl rfl rfl hM rfl (by
      intro q hq
      simp only [List.mem_cons, List.not_mem_nil, or_false] at hq
      rcases hq with rfl | rfl
      · simp
      · simp)
    have hpb : byteIn (tmBytes t) := hib
    have hpl : ((tmBytes t) : List Nat).length ≤ 1000 := (by omega)
    refine call_rule Hd (fun M I _ h => join (some ⟨gy, 0, none⟩) 2 2 [(tmBytes t), [0]] (by simp <;> omega) _ M I h) fun jv wc _ He => ?_
    have Hf := frzBytes He (v := svV jv) [(tmBytes t), [0]].flatten hM (by
      intro x hx
      simp only [List.flatten_cons, List.flatten_nil, List.append_nil, List.mem_append, List.mem_singleton] at hx
      rcases hx with hx | rfl
      · exact hpb x hx
      · decide)
    refine slice_as tok Hf [.slice (some ⟨bv.1, 0, none⟩) bv.2.1 bv.2.2, svV s0, svV jv] rfl rfl rfl rfl rfl rfl fun gx wd Hg => ?_
    have Hh := frzSl Hg (g := gx) [((⟨some ⟨bv.1, 0, none⟩, bv.2.1, bv.2.2⟩ : SV), ((tmBytes t).set (an % bv.2.1) z)), (s0, raw.take 40), (jv, [(tmBytes t), [0]].flatten)] 3 [((tmBytes t).set (an % bv.2.1) z), raw.take 40, [(tmBytes t), [0]].flatten] rfl rfl rfl hM rfl (by
      intro q hq
      simp only [List.mem_cons, List.not_mem_nil, or_false] at hq
      rcases hq with rfl | rfl | rfl <;> simp)
    have hqs : ∀ q, q ∈ [((tmBytes t).set (an % bv.2.1) z), raw.take 40, [(tmBytes t), [0]].flatten] → byteIn q ∧ q.length ≤ 1000000 := by
      intro q hq
      simp only [List.mem_cons, List.not_mem_nil, or_false] at hq
      rcases hq with rfl | rfl | rfl
      · exact ⟨hbin, by rw [List.length_set]; omega⟩
      · exact ⟨fun x hx => hraw x (List.mem_of_mem_take hx), by simp <;> omega⟩
      · refine ⟨fun x hx => ?_, by simp <;> omega⟩
        simp only [List.flatten_cons, List.flatten_nil, List.append_nil, List.mem_append, List.mem_singleton] at hx
        rcases hx with hx | rfl
        · exact hpb x hx
        · decide
    refine Exists.elim (show ∃ qs : List (List Nat), Hp ⟨w, M, I⟩ [] [Sl bytesR (.slice (some ⟨gx, 0, none⟩) 3 3) qs, Glob 1 errTy] wd ∧ ∀ q, q ∈ qs → byteIn q ∧ q.length ≤ 1000000 from ⟨[((tmBytes t).set (an % bv.2.1) z), raw.take 40, [(tmBytes t), [0]].flatten], Hp.keep Hh, hqs⟩) fun qs hx => ?_
    have Hi := hx.1
    have hqs := hx.2
    refine loop_rule tok (σ := Nat) 649037107241295589840397717848320 (fun i => [(76, .int .i64 (i : Int))])
      (fun i w' => i ≤ 3 ∧ Hp ⟨w, M, I⟩ [] [Sl bytesR (.slice (some ⟨gx, 0, none⟩) 3 3) qs, Glob 1 errTy] w') (fun i => 3 - i) 0 rfl rfl ⟨rfl, trivial⟩ ⟨Nat.zero_le _, Hi⟩ ?_
    intro i j we hW
    have hi := hW.1
    have Hj := hW.2
    refine brd (fun hq => ?_) (fun hq => ?_)
    · have hq : (i : Int) < (3 : Nat) := hq
      have nxt : Value.int .i64 (IntKind.i64.wrap (i + 1)) = .int .i64 ((i + 1 : Nat) : Int) := by rw [w64 (by omega) (by omega)]; rfl
      refine idx_rule tok Hj (r := bytesR) (A := some ⟨gx, 0, none⟩) (n := 3) (c := 3) rfl rfl rfl (by omega) hq fun pb po qb hqb Hk => ?_
      have hqm : qb ∈ qs := List.mem_of_getElem? hqb
      refine ld1_rule tok Hk (v := svV) rfl rfl (fun _ => rfl) fun qv _ Hl => ?_
      have Hl : Hp ⟨w, M, I⟩ [] [Sl byteR (svV qv) qb, Sl bytesR (.slice (some ⟨gx, 0, none⟩) 3 3) qs, Glob 1 errTy] we := Hp.keep (show Hp ⟨w, M, I⟩ [] [Sl byteR (svV qv) qb, Ptr bytesR pb po qb, Sl bytesR (.slice (some ⟨gx, 0, none⟩) 3 3) qs, Glob 1 errTy] we from Hl)
      refine Or.elim (show (paEnd qb && tmB (paT qb)) = true ∨ (paEnd qb && tmB (paT qb)) = false by cases (paEnd qb && tmB (paT qb)) <;> simp) (fun hpr => ?_) (fun hpr => ?_)
      · have hpr2 := hpr
        rw [Bool.and_eq_true] at hpr2
        have hent := pa_eq (hqs qb hqm).1 hpr2.1
        refine call_rule Hl (fun M I h0 h => parseYes qv.A qv.n qv.c qb (hqs qb hqm).2 (hqs qb hqm).1 hpr _ M I h) fun _ wf _ Hm => ?_
        refine alloc_as tok Hm (tmC tm0) rfl rfl rfl fun xx wg Hn => ?_
        refine store_as tok Hn (tmC (paT qb)) rfl rfl rfl rfl rfl fun wh Ho => ?_
        refine load_rule tok Ho (v := tmV (paT qb)) rfl ?_
        refine call_rule Ho (fun M I h0 h => tmBytesW (paT qb) (paT_in qb) hpr2.2 _ M I (h0 rfl) h) fun bv wi _ Hq => ?_
        rw [← hent] at Hq
        refine call_rule Hq (fun M I _ h => sameBytes bv.A qv.A bv.n bv.c qv.n qv.c qb qb _ M I h ⟨(Hp.sll (A := bv.A) (n := bv.n) (c := bv.c) h).1, by have := (hqs qb hqm).2; omega⟩ (Hp.sll (A := qv.A) (n := qv.n) (c := qv.c) h).1) fun _ wj _ Hs => ?_
        have esb : byEq qb qb = true := byEq_iff.2 rfl
        refine br (fun q5 => ?_) (fun q5 => ?_)
        · exact absurd q5 (by rw [esb]; simp)
        · exact Exists.intro (i + 1) (And.intro ⟨nxt, trivial⟩ (And.intro (by show 3 - (i + 1) < 3 - i; omega) ⟨by omega, Hp.keep Hs⟩))
      · refine call_rule Hl (fun M I h0 h => parseNo qv.A qv.n qv.c qb (hqs qb hqm).2 (hqs qb hqm).1 hpr _ M I h) fun _ wf _ Hm => ?_
        refine alloc_as tok Hm (tmC tm0) rfl rfl rfl fun xx wg Hn => ?_
        refine store_as tok Hn (tmC tm0) rfl rfl rfl rfl rfl fun wh Ho => ?_
        refine call_rule Ho (fun M I _ h => code_ (.code 2) _ M I h) fun _ wi _ Hq => ?_
        refine load_rule tok Hq (v := tmV tm0) rfl ?_
        refine neN_struct tok [28, 25] 2 (r := true) okS rfl guard28 rfl ?_
        exact Exists.intro (i + 1) (And.intro ⟨nxt, trivial⟩ (And.intro (by show 3 - (i + 1) < 3 - i; omega) ⟨by omega, Hp.keep Hq⟩))
    · exact Exists.intro () (And.intro rfl (And.intro trivial (Hp.keep Hj)))
  · have hrt : rtB t = false := by rw [rtB_eq]; exact hr
    refine call_rule H3 (fun M I h0 h => tmBytesNo t hr _ M I h) fun _ w5 _ H5 => ?_
    refine load_rule tok H5 (v := tmV t) rfl ?_
    refine call_rule H5 (fun M I _ h => ownTm t hin _ M I h) fun _ w6 _ H6 => ?_
    refine call_rule H6 (fun M I _ h => refRight t hin _ M I h) fun _ w7 _ H7 => ?_
    have H7 : Hp ⟨w, M, I⟩ [blk x (tmC t) 28] [Sl byteR (.slice none 0 0) [], Sl byteR (svV s0) (raw.take 40), Glob 1 errTy] w7 := Hp.keep H7
    refine br (fun q => ?_) (fun q => ?_)
    · have q : (rtB t != decide ((0 : Int) < ((0 : Nat) : Int))) = true := q
      exact absurd q (by rw [hrt]; decide)
    -- what is read of whatever bytes
    refine slice_as tok H7 [.int .u8 0] rfl rfl rfl rfl rfl rfl fun gz wa Ha => ?_
    have Hb := frzByte Ha (g := gz) (x := 0) rfl (by decide) hM
    refine slice_as tok Hb [.slice none 0 0, .slice (some ⟨gz, 0, none⟩) 1 1] rfl rfl rfl rfl rfl rfl fun gy wb Hc => ?_
    have Hd := frzSl Hc (g := gy) [((⟨none, 0, 0⟩ : SV), ([] : List Nat)), (⟨some ⟨gz, 0, none⟩, 1, 1⟩, [0])] 2 [([] : List Nat), [0]] rfl rfl rfl hM rfl (by
      intro q hq
      simp only [List.mem_cons, List.not_mem_nil, or_false] at hq
      rcases hq with rfl | rfl
      · simp
      · simp)
    have hpb : byteIn ([] : List Nat) := (fun x hx => by cases hx)
    have hpl : (([] : List Nat) : List Nat).length ≤ 1000 := (by simp)
    refine call_rule Hd (fun M I _ h => join (some ⟨gy, 0, none⟩) 2 2 [([] : List Nat), [0]] (by simp <;> omega) _ M I h) fun jv wc _ He => ?_
    have Hf := frzBytes He (v := svV jv) [([] : List Nat), [0]].flatten hM (by
      intro x hx
      simp only [List.flatten_cons, List.flatten_nil, List.append_nil, List.mem_append, List.mem_singleton] at hx
      rcases hx with hx | rfl
      · exact hpb x hx
      · decide)
    refine slice_as tok Hf [svV s0, svV s0, svV jv] rfl rfl rfl rfl rfl rfl fun gx wd Hg => ?_
    have Hh := frzSl Hg (g := gx) [(s0, (raw.take 40)), (s0, raw.take 40), (jv, [([] : List Nat), [0]].flatten)] 3 [(raw.take 40), raw.take 40, [([] : List Nat), [0]].flatten] rfl rfl rfl hM rfl (by
      intro q hq
      simp only [List.mem_cons, List.not_mem_nil, or_false] at hq
      rcases hq with rfl | rfl | rfl <;> simp)
    have hqs : ∀ q, q ∈ [(raw.take 40), raw.take 40, [([] : List Nat), [0]].flatten] → byteIn q ∧ q.length ≤ 1000000 := by
      intro q hq
      simp only [List.mem_cons, List.not_mem_nil, or_false] at hq
      rcases hq with rfl | rfl | rfl
      · exact ⟨fun x hx => hraw x (List.mem_of_mem_take hx), by simp <;> omega⟩
      · exact ⟨fun x hx => hraw x (List.mem_of_mem_take hx), by simp <;> omega⟩
      · refine ⟨fun x hx => ?_, by simp <;> omega⟩
        simp only [List.flatten_cons, List.flatten_nil, List.append_nil, List.mem_append, List.mem_singleton] at hx
        rcases hx with hx | rfl
        · exact hpb x hx
        · decide
    refine Exists.elim (show ∃ qs : List (List Nat), Hp ⟨w, M, I⟩ [] [Sl bytesR (.slice (some ⟨gx, 0, none⟩) 3 3) qs, Glob 1 errTy] wd ∧ ∀ q, q ∈ qs → byteIn q ∧ q.length ≤ 1000000 from ⟨[(raw.take 40), raw.take 40, [([] : List Nat), [0]].flatten], Hp.keep Hh, hqs⟩) fun qs hx => ?_
    have Hi := hx.1
    have hqs := hx.2
    refine loop_rule tok (σ := Nat) 649037107241295589840397717848320 (fun i => [(76, .int .i64 (i : Int))])
      (fun i w' => i ≤ 3 ∧ Hp ⟨w, M, I⟩ [] [Sl bytesR (.slice (some ⟨gx, 0, none⟩) 3 3) qs, Glob 1 errTy] w') (fun i => 3 - i) 0 rfl rfl ⟨rfl, trivial⟩ ⟨Nat.zero_le _, Hi⟩ ?_
    intro i j we hW
    have hi := hW.1
    have Hj := hW.2
    refine brd (fun hq => ?_) (fun hq => ?_)
    · have hq : (i : Int) < (3 : Nat) := hq
      have nxt : Value.int .i64 (IntKind.i64.wrap (i + 1)) = .int .i64 ((i + 1 : Nat) : Int) := by rw [w64 (by omega) (by omega)]; rfl
      refine idx_rule tok Hj (r := bytesR) (A := some ⟨gx, 0, none⟩) (n := 3) (c := 3) rfl rfl rfl (by omega) hq fun pb po qb hqb Hk => ?_
      have hqm : qb ∈ qs := List.mem_of_getElem? hqb
      refine ld1_rule tok Hk (v := svV) rfl rfl (fun _ => rfl) fun qv _ Hl => ?_
      have Hl : Hp ⟨w, M, I⟩ [] [Sl byteR (svV qv) qb, Sl bytesR (.slice (some ⟨gx, 0, none⟩) 3 3) qs, Glob 1 errTy] we := Hp.keep (show Hp ⟨w, M, I⟩ [] [Sl byteR (svV qv) qb, Ptr bytesR pb po qb, Sl bytesR (.slice (some ⟨gx, 0, none⟩) 3 3) qs, Glob 1 errTy] we from Hl)
      refine Or.elim (show (paEnd qb && tmB (paT qb)) = true ∨ (paEnd qb && tmB (paT qb)) = false by cases (paEnd qb && tmB (paT qb)) <;> simp) (fun hpr => ?_) (fun hpr => ?_)
      · have hpr2 := hpr
        rw [Bool.and_eq_true] at hpr2
        have hent := pa_eq (hqs qb hqm).1 hpr2.1
        refine call_rule Hl (fun M I h0 h => parseYes qv.A qv.n qv.c qb (hqs qb hqm).2 (hqs qb hqm).1 hpr _ M I h) fun _ wf _ Hm => ?_
        refine alloc_as tok Hm (tmC tm0) rfl rfl rfl fun xx wg Hn => ?_
        refine store_as tok Hn (tmC (paT qb)) rfl rfl rfl rfl rfl fun wh Ho => ?_
        refine load_rule tok Ho (v := tmV (paT qb)) rfl ?_
        refine call_rule Ho (fun M I h0 h => tmBytesW (paT qb) (paT_in qb) hpr2.2 _ M I (h0 rfl) h) fun bv wi _ Hq => ?_
        rw [← hent] at Hq
        refine call_rule Hq (fun M I _ h => sameBytes bv.A qv.A bv.n bv.c qv.n qv.c qb qb _ M I h ⟨(Hp.sll (A := bv.A) (n := bv.n) (c := bv.c) h).1, by have := (hqs qb hqm).2; omega⟩ (Hp.sll (A := qv.A) (n := qv.n) (c := qv.c) h).1) fun _ wj _ Hs => ?_
        have esb : byEq qb qb = true := byEq_iff.2 rfl
        refine br (fun q5 => ?_) (fun q5 => ?_)
        · exact absurd q5 (by rw [esb]; simp)
        · exact Exists.intro (i + 1) (And.intro ⟨nxt, trivial⟩ (And.intro (by show 3 - (i + 1) < 3 - i; omega) ⟨by omega, Hp.keep Hs⟩))
      · refine call_rule Hl (fun M I h0 h => parseNo qv.A qv.n qv.c qb (hqs qb hqm).2 (hqs qb hqm).1 hpr _ M I h) fun _ wf _ Hm => ?_
        refine alloc_as tok Hm (tmC tm0) rfl rfl rfl fun xx wg Hn => ?_
        refine store_as tok Hn (tmC tm0) rfl rfl rfl rfl rfl fun wh Ho => ?_
        refine call_rule Ho (fun M I _ h => code_ (.code 2) _ M I h) fun _ wi _ Hq => ?_
        refine load_rule tok Hq (v := tmV tm0) rfl ?_
        refine neN_struct tok [28, 25] 2 (r := true) okS rfl guard28 rfl ?_
        exact Exists.intro (i + 1) (And.intro ⟨nxt, trivial⟩ (And.intro (by show 3 - (i + 1) < 3 - i; omega) ⟨by omega, Hp.keep Hq⟩))
    · exact Exists.intro () (And.intro rfl (And.intro trivial (Hp.keep Hj)))
end Go.Proofs.YtgbmambkgcjhfaaGreatDoor
