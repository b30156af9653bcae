/- Each entry that may be has the document's bytes, of which it is read again; any bytes are one, or none: the walk. -/
import Derived.Test.YtenpgmnknmnofaaDoorT40
import Derived.Test.YtenpgmnknmnofaaDoorT35
import Derived.Test.YtenpgmnknmnofaaDoorT18
namespace Go.Proofs.YtenpgmnknmnofaaDoor
open Go Go.Proofs Go.Wk
theorem bytes_ok {w : World} {B : Base} {S : List Asn} {F : List Fact} (H : Hp B S F w) {A : Option Addr} {n c : Nat} {bs : List Nat} [hp : InSl F A n c byteR bs] : byteIn bs := fun x hx => by
  obtain ⟨I, fp, _, ha, _⟩ := H.ex
  obtain ⟨A', c', _, _, _, _, hel⟩ := ha _ hp.mem
  obtain ⟨i, hi⟩ := List.mem_iff_getElem?.1 hx
  obtain ⟨b, o, _, _, p, hok, _⟩ := hel i x hi
  exact hok
theorem parseEnt (k : Key) (hk : keyIn k) (ls : List Leg) (hls : ∀ x, x ∈ ls → legIn x) (hr : rightB k ls = true) (A : Option Addr) (n c : Nat) (hn : (entBytes k ls).length ≤ 1000000) (hp : byteIn (entBytes k ls)) (w : World) (M I : BS) (hM : ∀ b, ¬ M b) (H : Hp ⟨w, M, I⟩ [] [Sl byteR (.slice A n c) (entBytes k ls)] w) :
    Ctr Tryd.prog 14 [.slice A n c] w M I (fun s : SV => trV k (.ok s)) (fun _ => True) (fun _ => []) (fun s => [Sl legR (.slice s.A s.n s.c) ls]) := by
  obtain ⟨e1, e2, e3⟩ := parse_ent hk hls hr
  refine Exe.mono (parse A n c (entBytes k ls) hn hp w M I hM H) fun v w' h => ?_
  obtain ⟨a, hv, hφ, hh⟩ := h
  cases a with
  | bad c0 =>
    exfalso
    have hφ : c0 = 2 ∧ (endOk (pT (entBytes k ls)) && rightB (pK (entBytes k ls)) (pL (entBytes k ls))) = false := hφ
    rw [e1, e2, e3, hr] at hφ
    exact absurd hφ.2 (by decide)
  | ok s =>
    rw [e1] at hv
    have hh : Hp ⟨w, M, I⟩ [] [Sl legR (.slice s.A s.n s.c) (pL (entBytes k ls))] w' := hh
    rw [e2] at hh
    exact ⟨s, hv, trivial, hh⟩
theorem ent_in {k : Key} {ls : List Leg} (hk : keyIn k) (hls : ∀ x, x ∈ ls → legIn x) (hr : rightB k ls = true) : byteIn (entBytes k ls) ∧ (entBytes k ls).length ≤ 200 ∧ 0 < (entBytes k ls).length := by
  obtain ⟨q1, q2, q3, q4, _⟩ := right_facts hk hls hr
  obtain ⟨⟨k1, k2⟩, ⟨k3, k4⟩, ⟨k5, k6⟩, ⟨k7, k8⟩⟩ := hk
  simp only [kLo, kHi] at k1 k2 k3 k4 k5 k6 k7 k8
  have n1 := numB_len (n := k.loan.toNat) (m := 0) (by omega)
  have n2 := numB_len (n := k.day.toNat) (m := 0) (by omega)
  have n3 := numB_len (n := k.kind.toNat) (m := 0) (by omega)
  have n4 := numB_len (n := k.seq.toNat) (m := 0) (by omega)
  have n5 := numB_len (n := ls.length) (m := 0) (by omega)
  obtain ⟨l1, l2⟩ := legsB_lt hls
  refine ⟨fun x hx => ?_, ?_, ?_⟩
  · simp only [entBytes, List.mem_append] at hx
    rcases hx with ((((hx | hx) | hx) | hx) | hx) | hx
    · exact numB_lt (by omega) (by omega) x hx
    · exact numB_lt (by omega) (by omega) x hx
    · exact numB_lt (by omega) (by omega) x hx
    · exact numB_lt (by omega) (by omega) x hx
    · exact numB_lt (by omega) (by omega) x hx
    · exact l1 x hx
  · simp only [entBytes, List.length_append]; omega
  · simp only [entBytes, numB, List.length_append, List.length_cons]; omega
set_option maxRecDepth 20000 in
set_option maxHeartbeats 4000000 in
theorem formsWalk (k : Key) (hk : keyIn k) (A : Option Addr) (n c : Nat) (ls : List Leg) (B : Option Addr) (m d : Nat) (raw : List Nat) (at_ turn : Int) (hat : inK .u16 at_) (hturn : inK .u8 turn) (short : ∀ out, made (ls.take 12) out → out.length ≤ 1000) (w : World) (M I : BS) (hM : ∀ b, ¬ M b) (H : Hp ⟨w, M, I⟩ [] [Sl legR (.slice A n c) ls, Sl byteR (.slice B m d) raw, Glob 0 errTy] w) :
    Ctr Tryd.prog 4 [keyV k, .slice A n c, .slice B m d, .int .u16 at_, .int .u8 turn] w M I (fun _ : Unit => .bool true) (fun _ => True) (fun _ => []) (fun _ => []) := by
  have hl1 : (ls.take 12).length ≤ 12 := by simp <;> omega
  have hraw := bytes_ok (A := B) (n := m) (c := d) H
  refine Exe.of_ev tok Tryd.call4 Tryd.func4 rfl rfl rfl ?_
  refine box_as H (keyC k) rfl fun x w1 H1 => ?_
  refine call_rule H1 (fun M I h0 h => awake _ M I (h0 rfl) h) fun _ w2 _ H2 => ?_
  refine call_rule H2 (fun M I h0 h => cut B m d raw _ M I (h0 rfl) h hraw) fun s0 w3 _ H3 => ?_
  refine draw_rule (A := []) tok tdr H3 [1, 2, 0, 3, 4, 5] [0, 0, 2, 7, 0, 31] rfl ?_
  refine imp_rule (fun X wx h => call_rule h (fun M I h0 h => few A n c ls _ M I (h0 rfl) h) fun s1 w1 _ H1 => imp_done H1 ?_)
  refine pass_rule _ (fun w h => load_rule tok h (v := keyV k) rfl ⟨rfl, rfl⟩) ?_
  refine imp_rule (fun X wx h => call_rule h (fun M I h0 h => make k s1.A s1.n s1.c (ls.take 12) hl1 _ M I (h0 rfl) h) fun a => ?_)
  rcases a with ⟨⟨A1, n1, c1⟩, out⟩
  refine fun w1 ha H1 => imp_done H1 ?_
  refine fresh_alloc tok rfl rfl rfl fun e => ?_
  refine imp_rule (fun X wx h => store_as tok h (entC k A1 n1 c1) rfl rfl rfl rfl rfl fun w1 H1 => imp_done H1 ?_)
  refine done_rule fun w4 H4 => ?_
  have H4 : Hp ⟨w, M, I⟩ [blk e (entC k A1 n1 c1) 29] [Sl legR (.slice A1 n1 c1) out, Sl byteR (svV s0) (raw.take 60), Glob 0 errTy] w4 := H4.keep
  obtain ⟨hn1, hc1, hc2⟩ := H4.sll (A := A1) (n := n1) (c := c1)
  have hok := legs_ok (A := A1) (n := n1) (c := c1) H4
  have hsh := short out ha
  refine load_rule tok H4 (v := .agg #[.int .u32 k.loan, .int .i32 k.day, .int .u8 k.kind, .int .u32 k.seq, .slice A1 n1 c1]) rfl ?_
  refine call_rule H4 (fun M I h0 h => bytes_ k hk A1 n1 c1 out _ M I (h0 rfl) h) fun pv w5 _ H5 => ?_
  refine load_rule tok H5 (v := .agg #[.int .u32 k.loan, .int .i32 k.day, .int .u8 k.kind, .int .u32 k.seq, .slice A1 n1 c1]) rfl ?_
  refine call_rule H5 (fun M I _ h => right k hk.2.2.1 A1 n1 c1 out _ M I h) fun _ w6 _ H6 => ?_
  refine Or.elim (show rightB k out = true ∨ rightB k out = false by cases rightB k out <;> simp) (fun hr => ?_) (fun hr => ?_)
  · obtain ⟨hib, hil, hip⟩ := ent_in hk hok hr
    have ep : (if rightB k out = true then entBytes k out else []) = entBytes k out := if_pos hr
    rw [ep] at H6
    have H6 : Hp ⟨w, M, I⟩ [blk e (entC k A1 n1 c1) 29] [Sl byteR (svV pv) (entBytes k out), Sl legR (.slice A1 n1 c1) out, Sl byteR (svV s0) (raw.take 60), Glob 0 errTy] w6 := H6
    obtain ⟨hpn, _, _⟩ := H6.sll (A := pv.A) (n := pv.n) (c := pv.c)
    refine br (fun q => ?_) (fun q => ?_)
    · have q : (rightB k out != decide ((0 : Int) < (pv.n : Int))) = true := q
      exact absurd q (by rw [hr, decide_eq_true (by omega)]; simp)
    refine brd (fun q1 => ?_) (fun q1 => ?_)
    rotate_left
    · have q1 : ¬ (0 : Int) < pv.n := q1
      exact absurd q1 (by omega)
    refine call_rule H6 (fun M I h0 h => parseEnt k hk out hok hr pv.A pv.n pv.c (by omega) hib _ M I (h0 rfl) h) fun xs w7 _ H7 => ?_
    refine alloc_as tok H7 zeroC rfl rfl rfl fun xx w8 H8 => ?_
    refine store_as tok H8 (entC k xs.A xs.n xs.c) rfl rfl rfl rfl rfl fun w9 H9 => ?_
    refine load_rule tok H9 (v := .agg #[.int .u32 k.loan, .int .i32 k.day, .int .u8 k.kind, .int .u32 k.seq, .slice A1 n1 c1]) rfl ?_
    refine call_rule H9 (fun M I h0 h => own_ k A1 n1 c1 out hsh _ M I (h0 rfl) h) fun s2 w10 _ H10 => ?_
    refine call_rule H10 (fun M I h0 h => bytesRef k hk (right_day hr).1 s2.A s2.n s2.c out hsh _ M I (h0 rfl) h) fun rb w11 _ H11 => ?_
    refine call_rule H11 (fun M I _ h => sameBytes pv.A rb.A pv.n pv.c rb.n rb.c (entBytes k out) (entBytes k out) _ M I h ⟨hpn, by omega⟩ (Hp.sll (A := rb.A) (n := rb.n) (c := rb.c) h).1) fun _ w12 _ H12 => ?_
    have esb : byEq (entBytes k out) (entBytes k out) = true := byEq_iff.2 rfl
    refine br (fun q2 => ?_) (fun q2 => ?_)
    · exact absurd q2 (by rw [esb]; simp)
    refine load_rule tok H12 (v := .agg #[.int .u32 k.loan, .int .i32 k.day, .int .u8 k.kind, .int .u32 k.seq, .slice xs.A xs.n xs.c]) rfl ?_
    refine load_rule tok H12 (v := .agg #[.int .u32 k.loan, .int .i32 k.day, .int .u8 k.kind, .int .u32 k.seq, .slice A1 n1 c1]) rfl ?_
    refine call_rule H12 (fun M I _ h => same_ k k xs.A A1 xs.n xs.c n1 c1 out out _ M I h ⟨(Hp.sll (A := xs.A) (n := xs.n) (c := xs.c) h).1, by omega⟩ hn1) fun _ w13 _ H13 => ?_
    have esm : sameB k k out out = true := by unfold sameB; rw [eqK_iff.2 rfl, legsEq_iff.2 rfl]; rfl
    refine br (fun q3 => ?_) (fun q3 => ?_)
    · exact absurd q3 (by rw [esm]; simp)
    refine slice_as tok H13 [svV pv] rfl rfl rfl rfl rfl rfl fun gp w14 H14 => ?_
    have H15 := frzSl H14 (g := gp) [(pv, entBytes k out)] 1 [entBytes k out] rfl rfl rfl hM rfl (by
      intro q hq
      simp only [List.mem_cons, List.not_mem_nil, or_false] at hq
      subst hq; simp)
    refine call_rule H15 (fun M I _ h => join (some ⟨gp, 0, none⟩) 1 1 [entBytes k out] (by simp <;> omega) _ M I h) fun bv => ?_
    rcases bv with ⟨A3, n3, c3⟩
    intro w15 hb H16
    have efl : [entBytes k out].flatten = entBytes k out := by simp
    rw [efl] at hb H16
    have hb : n3 = (entBytes k out).length := hb
    have H16 : Hp ⟨w, M, I⟩ [row 5 1 (.slice A3 n3 c3) n3 (byC (entBytes k out))] [Sl byteR (svV pv) (entBytes k out), Sl byteR (svV s0) (raw.take 60), Glob 0 errTy] w15 := H16.keep
    obtain ⟨b3, rfl⟩ := H16.rowSome (A := A3) (n := n3) (c := c3) (by omega)
    have hat2 : 0 ≤ at_ ∧ at_ ≤ 65535 := hat
    have ht2 : 0 ≤ turn ∧ turn ≤ 255 := hturn
    refine Exists.elim (show ∃ an : Nat, at_ = an from ⟨at_.toNat, by omega⟩) fun an han => ?_
    have hjn : an % n3 < n3 := Nat.mod_lt _ (by omega)
    refine rem_as ((an % n3 : Nat) : Int) (by show (n3 : Int) ≠ 0; omega) (by
      show (IntKind.i64.wrap at_).tmod (n3 : Int) = _
      rw [han, w64 (by omega) (by omega)]
      exact (Int.ofNat_tmod an n3).symm) ?_
    have hgx : ∃ bx : Nat, bx < 256 ∧ ldV (tb 5) (byC (entBytes k out)) (0 + an % n3 * 1) = some (.int .u8 (bx : Int)) := by
      have hlt : an % n3 < (entBytes k out).length := by omega
      refine ⟨(entBytes k out)[an % n3], hib _ (List.getElem_mem _), ?_⟩
      show (byC (entBytes k out))[0 + an % n3 * 1]? = _
      rw [Nat.zero_add, Nat.mul_one]
      simp [byC, hlt]
    refine Exists.elim hgx fun bx hgx2 => ?_
    have hbx := hgx2.1
    have hget := hgx2.2
    refine idx_own tok rfl rfl (show (0 : Int) ≤ ((an % n3 : Nat) : Int) by omega) (show ((an % n3 : Nat) : Int) < n3 by omega) ?_
    refine row_ld tok H16 (.int .u8 (bx : Int)) hget ?_
    have hxor : ∃ z : Nat, z < 256 ∧ IntKind.u8.wrap (BitVec.ofInt IntKind.u8.bits (bx : Int) ^^^ BitVec.ofInt IntKind.u8.bits turn).toNat = (z : Int) := ⟨(BitVec.ofInt IntKind.u8.bits (bx : Int) ^^^ BitVec.ofInt IntKind.u8.bits turn).toNat % 256, Nat.mod_lt _ (by decide), wrap_u8 _⟩
    refine Exists.elim hxor fun z hz => ?_
    refine xor_as (z : Int) hz.2 ?_
    refine idx_own tok rfl rfl (show (0 : Int) ≤ ((an % n3 : Nat) : Int) by omega) (show ((an % n3 : Nat) : Int) < n3 by omega) ?_
    refine row_st tok H16 rfl rfl (by show 0 + an % n3 * 1 + 1 ≤ (byC (entBytes k out)).length; simp [byC]; omega) rfl fun w16 H17 => ?_
    have H17 : Hp ⟨w, M, I⟩ [row 5 1 (.slice (some ⟨b3, 0, none⟩) n3 c3) n3 (setL (byC (entBytes k out)) (0 + an % n3 * 1) [.int .u8 (z : Int)])] [Sl byteR (svV pv) (entBytes k out), Sl byteR (svV s0) (raw.take 60), Glob 0 errTy] w16 := H17
    have est : setL (byC (entBytes k out)) (0 + an % n3 * 1) [.int .u8 (z : Int)] = byC ((entBytes k out).set (an % n3) z) := by
      rw [Nat.zero_add, Nat.mul_one]
      show (byC (entBytes k out)).set (an % n3) (.int .u8 (z : Int)) = _
      simp [byC, List.map_set]
    rw [est] at H17
    have hbin : byteIn ((entBytes k out).set (an % n3) z) := fun y hy => by
      rcases List.mem_or_eq_of_mem_set hy with hy | rfl
      · exact hib y hy
      · exact hz.1
    have H18 := frzBytes H17 (v := .slice (some ⟨b3, 0, none⟩) n3 c3) ((entBytes k out).set (an % n3) z) hM hbin
    -- what is read of whatever bytes
    refine slice_as tok H18 [.int .u8 0] rfl rfl rfl rfl rfl rfl fun gz wa Ha => ?_
    have Hb := frzByte Ha (g := gz) (x := 0) rfl (by decide) hM
    refine slice_as tok Hb [svV pv, .slice (some ⟨gz, 0, none⟩) 1 1] rfl rfl rfl rfl rfl rfl fun gy wb Hc => ?_
    have Hd := frzSl Hc (g := gy) [(pv, (entBytes k out)), (⟨some ⟨gz, 0, none⟩, 1, 1⟩, [0])] 2 [(entBytes k out), [0]] rfl rfl rfl hM rfl (by
      intro q hq
      simp only [List.mem_cons, List.not_mem_nil, or_false] at hq
      rcases hq with rfl | rfl
      · simp
      · simp)
    have hpb : byteIn (entBytes k out) := hib
    have hpl : ((entBytes k out) : List Nat).length ≤ 1000 := (by omega)
    refine call_rule Hd (fun M I _ h => join (some ⟨gy, 0, none⟩) 2 2 [(entBytes k out), [0]] (by simp <;> omega) _ M I h) fun jv wc _ He => ?_
    have Hf := frzBytes He (v := svV jv) [(entBytes k out), [0]].flatten hM (by
      intro x hx
      simp only [List.flatten_cons, List.flatten_nil, List.append_nil, List.mem_append, List.mem_singleton] at hx
      rcases hx with hx | rfl
      · exact hpb x hx
      · decide)
    refine slice_as tok Hf [svV (⟨some ⟨b3, 0, none⟩, n3, c3⟩ : SV), svV s0, svV jv] rfl rfl rfl rfl rfl rfl fun gx wd Hg => ?_
    have Hh := frzSl Hg (g := gx) [((⟨some ⟨b3, 0, none⟩, n3, c3⟩ : SV), ((entBytes k out).set (an % n3) z)), (s0, raw.take 60), (jv, [(entBytes k out), [0]].flatten)] 3 [((entBytes k out).set (an % n3) z), raw.take 60, [(entBytes k out), [0]].flatten] rfl rfl rfl hM rfl (by
      intro q hq
      simp only [List.mem_cons, List.not_mem_nil, or_false] at hq
      rcases hq with rfl | rfl | rfl <;> simp)
    have hqs : ∀ q, q ∈ [((entBytes k out).set (an % n3) z), raw.take 60, [(entBytes k out), [0]].flatten] → byteIn q ∧ q.length ≤ 1000000 := by
      intro q hq
      simp only [List.mem_cons, List.not_mem_nil, or_false] at hq
      rcases hq with rfl | rfl | rfl
      · exact ⟨hbin, by rw [List.length_set]; omega⟩
      · exact ⟨fun x hx => hraw x (List.mem_of_mem_take hx), by simp <;> omega⟩
      · refine ⟨fun x hx => ?_, by simp <;> omega⟩
        simp only [List.flatten_cons, List.flatten_nil, List.append_nil, List.mem_append, List.mem_singleton] at hx
        rcases hx with hx | rfl
        · exact hpb x hx
        · decide
    refine Exists.elim (show ∃ qs : List (List Nat), Hp ⟨w, M, I⟩ [] [Sl bytesR (.slice (some ⟨gx, 0, none⟩) 3 3) qs, Glob 0 errTy] wd ∧ ∀ q, q ∈ qs → byteIn q ∧ q.length ≤ 1000000 from ⟨[((entBytes k out).set (an % n3) z), raw.take 60, [(entBytes k out), [0]].flatten], Hp.keep Hh, hqs⟩) fun qs hx => ?_
    have Hi := hx.1
    have hqs := hx.2
    refine loop_rule tok (σ := Nat) 166153499463443077556058849138312192 (fun i => [(83, .int .i64 i)])
      (fun i w' => i ≤ 3 ∧ Hp ⟨w, M, I⟩ [] [Sl bytesR (.slice (some ⟨gx, 0, none⟩) 3 3) qs, Glob 0 errTy] w') (fun i => 3 - i) 0 rfl rfl ⟨rfl, trivial⟩ ⟨Nat.zero_le _, Hi⟩ ?_
    rintro i j we ⟨hi, Hj⟩
    refine brd (fun hq => ?_) (fun hq => ?_)
    · have hq : (i : Int) < (3 : Nat) := hq
      have nxt : Value.int .i64 (IntKind.i64.wrap (i + 1)) = .int .i64 ((i + 1 : Nat) : Int) := by rw [w64 (by omega) (by omega)]; rfl
      refine idx_rule tok Hj (r := bytesR) (A := some ⟨gx, 0, none⟩) (n := 3) (c := 3) rfl rfl rfl (by omega) hq fun pb po qb hqb Hk => ?_
      have hqm : qb ∈ qs := List.mem_of_getElem? hqb
      refine ld1_rule tok Hk (v := svV) rfl rfl (fun _ => rfl) fun qv _ Hl => ?_
      refine call_rule Hl (fun M I h0 h => parse qv.A qv.n qv.c qb (hqs qb hqm).2 (hqs qb hqm).1 _ M I (h0 rfl) h) fun a => ?_
      rcases a with c0 | ⟨A5, n5, c5⟩
      · intro wf hpr Hm
        obtain ⟨rfl, _⟩ := hpr
        refine alloc_as tok Hm zeroC rfl rfl rfl fun xx wg Hn => ?_
        refine store_as tok Hn zeroC rfl rfl rfl rfl rfl fun wh Ho => ?_
        refine call_rule Ho (fun M I _ h => code_ (.code 2) _ M I h) fun _ wi _ Hq => ?_
        refine load_rule tok Hq (v := .agg #[.int .u32 0, .int .i32 0, .int .u8 0, .int .u32 0, .slice none 0 0]) rfl ?_
        have Hr := (Hq.slNil legR)
        refine call_rule Hr (fun M I _ h => same_ ⟨0, 0, 0, 0⟩ ⟨0, 0, 0, 0⟩ none none 0 0 0 0 [] [] _ M I h ⟨rfl, by decide⟩ rfl) fun _ wj _ Hs => ?_
        exact Exists.intro (i + 1) (And.intro ⟨nxt, trivial⟩ (And.intro (by omega) ⟨by omega, Hp.keep Hs⟩))
      · intro wf hpr Hm
        have hpr : (endOk (pT qb) && rightB (pK qb) (pL qb)) = true := hpr
        have Hm : Hp ⟨w, M, I⟩ [] [Sl legR (.slice A5 n5 c5) (pL qb), Sl byteR (svV qv) qb, Sl bytesR (.slice (some ⟨gx, 0, none⟩) 3 3) qs, Glob 0 errTy] wf := by
          have Hm' : Hp ⟨w, M, I⟩ [] [Sl legR (.slice A5 n5 c5) (pL qb), Sl byteR (svV qv) qb, Ptr bytesR pb po qb, Sl bytesR (.slice (some ⟨gx, 0, none⟩) 3 3) qs, Glob 0 errTy] wf := Hm
          exact Hm'.keep
        have hpr2 := hpr
        rw [Bool.and_eq_true] at hpr2
        have hent := parse_eq (hqs qb hqm).1 hpr
        refine alloc_as tok Hm zeroC rfl rfl rfl fun xx wg Hn => ?_
        refine store_as tok Hn (entC (pK qb) A5 n5 c5) rfl rfl rfl rfl rfl fun wh Ho => ?_
        refine load_rule tok Ho (v := .agg #[.int .u32 (pK qb).loan, .int .i32 (pK qb).day, .int .u8 (pK qb).kind, .int .u32 (pK qb).seq, .slice A5 n5 c5]) rfl ?_
        refine call_rule Ho (fun M I h0 h => bytes_ (pK qb) (pK_in qb) A5 n5 c5 (pL qb) _ M I (h0 rfl) h) fun bv wi _ Hq => ?_
        have ebs : (if rightB (pK qb) (pL qb) = true then entBytes (pK qb) (pL qb) else []) = qb := by rw [if_pos hpr2.2, hent]
        rw [ebs] at Hq
        refine call_rule Hq (fun M I _ h => sameBytes bv.A qv.A bv.n bv.c qv.n qv.c qb qb _ M I h ⟨(Hp.sll (A := bv.A) (n := bv.n) (c := bv.c) h).1, by have := (hqs qb hqm).2; omega⟩ (Hp.sll (A := qv.A) (n := qv.n) (c := qv.c) h).1) fun _ wj _ Hs => ?_
        have esb : byEq qb qb = true := byEq_iff.2 rfl
        refine br (fun q5 => ?_) (fun q5 => ?_)
        · exact absurd q5 (by rw [esb]; simp)
        · exact Exists.intro (i + 1) (And.intro ⟨nxt, trivial⟩ (And.intro (by omega) ⟨by omega, Hp.keep Hs⟩))
    · exact Exists.intro () (And.intro rfl (And.intro trivial (Hp.keep Hj)))
  · have ep : (if rightB k out = true then entBytes k out else []) = [] := if_neg (by rw [hr]; simp)
    rw [ep] at H6
    have H6 : Hp ⟨w, M, I⟩ [blk e (entC k A1 n1 c1) 29] [Sl byteR (svV pv) [], Sl legR (.slice A1 n1 c1) out, Sl byteR (svV s0) (raw.take 60), Glob 0 errTy] w6 := H6
    obtain ⟨hpn, _, _⟩ := H6.sll (A := pv.A) (n := pv.n) (c := pv.c)
    have hpn : pv.n = 0 := hpn
    refine br (fun q => ?_) (fun q => ?_)
    · have q : (rightB k out != decide ((0 : Int) < (pv.n : Int))) = true := q
      exact absurd q (by rw [hr, decide_eq_false (by omega)]; simp)
    refine brd (fun q1 => ?_) (fun q1 => ?_)
    · have q1 : (0 : Int) < pv.n := q1
      exact absurd q1 (by omega)
    -- what is read of whatever bytes
    refine slice_as tok H6 [.int .u8 0] rfl rfl rfl rfl rfl rfl fun gz wa Ha => ?_
    have Hb := frzByte Ha (g := gz) (x := 0) rfl (by decide) hM
    refine slice_as tok Hb [svV pv, .slice (some ⟨gz, 0, none⟩) 1 1] rfl rfl rfl rfl rfl rfl fun gy wb Hc => ?_
    have Hd := frzSl Hc (g := gy) [(pv, ([] : List Nat)), (⟨some ⟨gz, 0, none⟩, 1, 1⟩, [0])] 2 [([] : List Nat), [0]] rfl rfl rfl hM rfl (by
      intro q hq
      simp only [List.mem_cons, List.not_mem_nil, or_false] at hq
      rcases hq with rfl | rfl
      · simp
      · simp)
    have hpb : byteIn ([] : List Nat) := (fun x hx => by cases hx)
    have hpl : (([] : List Nat) : List Nat).length ≤ 1000 := (by simp)
    refine call_rule Hd (fun M I _ h => join (some ⟨gy, 0, none⟩) 2 2 [([] : List Nat), [0]] (by simp <;> omega) _ M I h) fun jv wc _ He => ?_
    have Hf := frzBytes He (v := svV jv) [([] : List Nat), [0]].flatten hM (by
      intro x hx
      simp only [List.flatten_cons, List.flatten_nil, List.append_nil, List.mem_append, List.mem_singleton] at hx
      rcases hx with hx | rfl
      · exact hpb x hx
      · decide)
    refine slice_as tok Hf [svV s0, svV s0, svV jv] rfl rfl rfl rfl rfl rfl fun gx wd Hg => ?_
    have Hh := frzSl Hg (g := gx) [(s0, (raw.take 60)), (s0, raw.take 60), (jv, [([] : List Nat), [0]].flatten)] 3 [(raw.take 60), raw.take 60, [([] : List Nat), [0]].flatten] rfl rfl rfl hM rfl (by
      intro q hq
      simp only [List.mem_cons, List.not_mem_nil, or_false] at hq
      rcases hq with rfl | rfl | rfl <;> simp)
    have hqs : ∀ q, q ∈ [(raw.take 60), raw.take 60, [([] : List Nat), [0]].flatten] → byteIn q ∧ q.length ≤ 1000000 := by
      intro q hq
      simp only [List.mem_cons, List.not_mem_nil, or_false] at hq
      rcases hq with rfl | rfl | rfl
      · exact ⟨fun x hx => hraw x (List.mem_of_mem_take hx), by simp <;> omega⟩
      · exact ⟨fun x hx => hraw x (List.mem_of_mem_take hx), by simp <;> omega⟩
      · refine ⟨fun x hx => ?_, by simp <;> omega⟩
        simp only [List.flatten_cons, List.flatten_nil, List.append_nil, List.mem_append, List.mem_singleton] at hx
        rcases hx with hx | rfl
        · exact hpb x hx
        · decide
    refine Exists.elim (show ∃ qs : List (List Nat), Hp ⟨w, M, I⟩ [] [Sl bytesR (.slice (some ⟨gx, 0, none⟩) 3 3) qs, Glob 0 errTy] wd ∧ ∀ q, q ∈ qs → byteIn q ∧ q.length ≤ 1000000 from ⟨[(raw.take 60), raw.take 60, [([] : List Nat), [0]].flatten], Hp.keep Hh, hqs⟩) fun qs hx => ?_
    have Hi := hx.1
    have hqs := hx.2
    refine loop_rule tok (σ := Nat) 166153499463443077556058849138312192 (fun i => [(83, .int .i64 i)])
      (fun i w' => i ≤ 3 ∧ Hp ⟨w, M, I⟩ [] [Sl bytesR (.slice (some ⟨gx, 0, none⟩) 3 3) qs, Glob 0 errTy] w') (fun i => 3 - i) 0 rfl rfl ⟨rfl, trivial⟩ ⟨Nat.zero_le _, Hi⟩ ?_
    rintro i j we ⟨hi, Hj⟩
    refine brd (fun hq => ?_) (fun hq => ?_)
    · have hq : (i : Int) < (3 : Nat) := hq
      have nxt : Value.int .i64 (IntKind.i64.wrap (i + 1)) = .int .i64 ((i + 1 : Nat) : Int) := by rw [w64 (by omega) (by omega)]; rfl
      refine idx_rule tok Hj (r := bytesR) (A := some ⟨gx, 0, none⟩) (n := 3) (c := 3) rfl rfl rfl (by omega) hq fun pb po qb hqb Hk => ?_
      have hqm : qb ∈ qs := List.mem_of_getElem? hqb
      refine ld1_rule tok Hk (v := svV) rfl rfl (fun _ => rfl) fun qv _ Hl => ?_
      refine call_rule Hl (fun M I h0 h => parse qv.A qv.n qv.c qb (hqs qb hqm).2 (hqs qb hqm).1 _ M I (h0 rfl) h) fun a => ?_
      rcases a with c0 | ⟨A5, n5, c5⟩
      · intro wf hpr Hm
        obtain ⟨rfl, _⟩ := hpr
        refine alloc_as tok Hm zeroC rfl rfl rfl fun xx wg Hn => ?_
        refine store_as tok Hn zeroC rfl rfl rfl rfl rfl fun wh Ho => ?_
        refine call_rule Ho (fun M I _ h => code_ (.code 2) _ M I h) fun _ wi _ Hq => ?_
        refine load_rule tok Hq (v := .agg #[.int .u32 0, .int .i32 0, .int .u8 0, .int .u32 0, .slice none 0 0]) rfl ?_
        have Hr := (Hq.slNil legR)
        refine call_rule Hr (fun M I _ h => same_ ⟨0, 0, 0, 0⟩ ⟨0, 0, 0, 0⟩ none none 0 0 0 0 [] [] _ M I h ⟨rfl, by decide⟩ rfl) fun _ wj _ Hs => ?_
        exact Exists.intro (i + 1) (And.intro ⟨nxt, trivial⟩ (And.intro (by omega) ⟨by omega, Hp.keep Hs⟩))
      · intro wf hpr Hm
        have hpr : (endOk (pT qb) && rightB (pK qb) (pL qb)) = true := hpr
        have Hm : Hp ⟨w, M, I⟩ [] [Sl legR (.slice A5 n5 c5) (pL qb), Sl byteR (svV qv) qb, Sl bytesR (.slice (some ⟨gx, 0, none⟩) 3 3) qs, Glob 0 errTy] wf := by
          have Hm' : Hp ⟨w, M, I⟩ [] [Sl legR (.slice A5 n5 c5) (pL qb), Sl byteR (svV qv) qb, Ptr bytesR pb po qb, Sl bytesR (.slice (some ⟨gx, 0, none⟩) 3 3) qs, Glob 0 errTy] wf := Hm
          exact Hm'.keep
        have hpr2 := hpr
        rw [Bool.and_eq_true] at hpr2
        have hent := parse_eq (hqs qb hqm).1 hpr
        refine alloc_as tok Hm zeroC rfl rfl rfl fun xx wg Hn => ?_
        refine store_as tok Hn (entC (pK qb) A5 n5 c5) rfl rfl rfl rfl rfl fun wh Ho => ?_
        refine load_rule tok Ho (v := .agg #[.int .u32 (pK qb).loan, .int .i32 (pK qb).day, .int .u8 (pK qb).kind, .int .u32 (pK qb).seq, .slice A5 n5 c5]) rfl ?_
        refine call_rule Ho (fun M I h0 h => bytes_ (pK qb) (pK_in qb) A5 n5 c5 (pL qb) _ M I (h0 rfl) h) fun bv wi _ Hq => ?_
        have ebs : (if rightB (pK qb) (pL qb) = true then entBytes (pK qb) (pL qb) else []) = qb := by rw [if_pos hpr2.2, hent]
        rw [ebs] at Hq
        refine call_rule Hq (fun M I _ h => sameBytes bv.A qv.A bv.n bv.c qv.n qv.c qb qb _ M I h ⟨(Hp.sll (A := bv.A) (n := bv.n) (c := bv.c) h).1, by have := (hqs qb hqm).2; omega⟩ (Hp.sll (A := qv.A) (n := qv.n) (c := qv.c) h).1) fun _ wj _ Hs => ?_
        have esb : byEq qb qb = true := byEq_iff.2 rfl
        refine br (fun q5 => ?_) (fun q5 => ?_)
        · exact absurd q5 (by rw [esb]; simp)
        · exact Exists.intro (i + 1) (And.intro ⟨nxt, trivial⟩ (And.intro (by omega) ⟨by omega, Hp.keep Hs⟩))
    · exact Exists.intro () (And.intro rfl (And.intro trivial (Hp.keep Hj)))
end Go.Proofs.YtenpgmnknmnofaaDoor
