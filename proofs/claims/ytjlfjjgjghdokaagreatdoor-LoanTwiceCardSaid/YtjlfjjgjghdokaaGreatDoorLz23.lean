/- A loan: it is made, run, asked: the walks. -/
import Derived.Test.YtjlfjjgjghdokaaGreatDoorLz22
set_option linter.unusedVariables false
namespace Go.Proofs.YtjlfjjgjghdokaaGreatDoor
open Go Go.Proofs Go.Wk
structure NewLo (id : Int) (t : Tm) (hs : List Int) (o : Lo) : Prop where
  loan : o.S.loan = id
  tm : o.S.t = t
  dues : DuesR t hs t.months.toNat o.S.dues
  ps : o.ps = []
  thr : o.thr = t.start - 1
  ok : LoOk o
  told : told o.S o.thr o.ps o.x (o.h.es.map kl)
set_option maxRecDepth 20000 in
theorem loanNew (id : Int) (hid : inK .u32 id) (t : Tm) (hin : TmIn t) (A : Option Addr) (n c : Nat) (hs : List Int) (ht : tmB t = true) (hh : holyB hs = true) (w : World) (M I : BS) (hM : ∀ b, ¬ M b) (H : Hp ⟨w, M, I⟩ [] [Sl dayR (.slice A n c) hs] w) :
    Ctr Tryz.prog 27 [.int .u32 id, tmV t, .slice A n c] w M I (fun a : Nat × Lo => .tuple #[.pointer (some ⟨a.1, 0, none⟩), .nilIface]) (fun a => NewLo id t hs a.2) (fun a => loA a.1 a.2) (fun a => [EnF a.2.h.es, Sl dueR (.slice a.2.dv.A a.2.dv.n a.2.dv.c) a.2.S.dues]) := by
  have ok := tmB_iff.1 ht
  have hst := ok.start
  refine Exe.of_ev tok Tryz.call27 Tryz.func27 rfl rfl rfl ?_
  refine box_as H (tmC t) rfl fun b w1 H1 => ?_
  refine load_rule tok H1 (v := tmV t) rfl ?_
  refine call_rule H1 (fun M I h0 h => storyNew id t hin A n c hs ht hh _ M I (h0 rfl) h) fun a w2 ha H2 => ?_
  have hS := sto_ok (loan := id) hin ok ha
  have et : IntKind.i32.wrap (t.start - 1) = t.start - 1 := i32w (by omega) (by omega)
  refine Exists.elim (show ∃ o : Lo, o = ⟨a.1, ⟨id, t, a.2.2⟩, a.2.1, [], ⟨none, 0, 0⟩, t.start - 1, st0, ⟨none, 0, []⟩⟩ from ⟨_, rfl⟩) fun o eo => ?_
  have hok : LoOk o := by
    rw [eo]
    exact ⟨hS, rfl, fun p hp => (by cases hp), by show 0 ≤ 19; decide, ⟨by show t.start - 1 ≤ t.start - 1; omega, by show t.start - 1 ≤ t.start + 10000; omega⟩, hid⟩
  refine load_rule tok H2 (v := .int .i32 t.start) rfl ?_
  refine box_as H2 [.int .u32 id, .pointer (some ⟨a.1, 0, none⟩), .slice none 0 0, .int .i32 (IntKind.i32.wrap (t.start - 1)), .int .i64 0, .int .i64 0, .int .i64 0, .int .u64 0, .int .i64 0, .int .i64 0, .int .i64 0, .int .i64 0, .int .u8 0, .slice none 0 0] rfl fun p w3 H3 => ?_
  rw [et] at H3
  have H4 : Hp ⟨w, M, I⟩ (loA p o) [Sl dueR (.slice o.dv.A o.dv.n o.dv.c) o.S.dues] w3 := by
    rw [eo]
    show Hp ⟨w, M, I⟩ [blk p [.int .u32 id, .pointer (some ⟨a.1, 0, none⟩), .slice none 0 0, .int .i32 (t.start - 1), .int .i64 0, .int .i64 0, .int .i64 0, .int .u64 0, .int .i64 0, .int .i64 0, .int .i64 0, .int .i64 0, .int .u8 0, .slice none 0 0] 141, row 105 5 (.slice none 0 0) 0 [], blk a.1 (stoC ⟨id, t, a.2.2⟩ a.2.1) 120, row 71 5 (.slice none 0 0) 0 []] [Sl dueR (.slice a.2.1.A a.2.1.n a.2.1.c) a.2.2] w3
    exact Hp.keep (Hp.nil (Hp.nil H3 105 5) 71 5)
  refine call_rule H4 (fun M I _ h => ltell p o hok _ M I h) fun b w4 hb H5 => ?_
  refine Exists.intro (p, { o with x := b.1, h := b.2 }) (And.intro rfl (And.intro ⟨?_, ?_, ?_, ?_, ?_, ?_, hb⟩ (Hp.keep H5)))
  · show o.S.loan = id
    rw [eo]
  · show o.S.t = t
    rw [eo]
  · show DuesR t hs t.months.toNat o.S.dues
    rw [eo]
    exact ha
  · show o.ps = []
    rw [eo]
  · show o.thr = t.start - 1
    rw [eo]
  · exact ⟨hok.sto, hok.pn, hok.ev, hok.few, hok.thr, hok.loan⟩
theorem loanRun (p : Nat) (o : Lo) (ok : LoOk o) (day : Int) (hd : day = o.thr + 1) (h1 : day ≤ o.S.t.start + 10000) (h2 : day ≤ 3640000) (w : World) (M I : BS) (H : Hp ⟨w, M, I⟩ (loA p o) [Sl dueR (.slice o.dv.A o.dv.n o.dv.c) o.S.dues] w) :
    Ctr Tryz.prog 28 [.pointer (some ⟨p, 0, none⟩), .int .i32 day] w M I (fun _ : St × Hd => .nilIface) (fun a => told o.S day o.ps a.1 (a.2.es.map kl)) (fun a => loA p { o with thr := day, x := a.1, h := a.2 }) (fun a => [EnF a.2.es]) := by
  have hst := ok.sto.ok.start
  have hthr := ok.thr
  have e1 : IntKind.i64.wrap day = day := i64w (by omega) (by omega)
  have e2 : IntKind.i64.wrap (IntKind.i64.wrap o.thr + 1) = day := by rw [i64w (n := o.thr) (by omega) (by omega), ← hd]; exact i64w (by omega) (by omega)
  have g1 : (!(IntKind.i64.wrap day == IntKind.i64.wrap (IntKind.i64.wrap o.thr + 1))) = false := by rw [e2, e1]; simp
  refine Exe.of_ev tok Tryz.call28 Tryz.func28 rfl rfl rfl ?_
  refine load_rule tok H (v := .int .i32 o.thr) rfl ?_
  refine br (fun q => absurd (g1.symm.trans q) (by decide)) (fun _ => ?_)
  refine brd (fun q => absurd h2 (Int.not_le.2 q)) (fun _ => ?_)
  refine store_as tok H (loC { o with thr := day }) rfl rfl rfl rfl rfl fun w1 H1 => ?_
  have H1 : Hp ⟨w, M, I⟩ (loA p { o with thr := day }) [Sl dueR (.slice o.dv.A o.dv.n o.dv.c) o.S.dues] w1 := Hp.keep H1
  refine call_rule H1 (fun M I _ h => ltell p { o with thr := day } ⟨ok.sto, ok.pn, ok.ev, ok.few, ⟨by show o.S.t.start - 1 ≤ day; omega, by show day ≤ o.S.t.start + 10000; omega⟩, ok.loan⟩ _ M I h) fun a w2 ha H2 => ?_
  exact Exists.intro a (And.intro rfl (And.intro ha (Hp.keep H2)))
theorem loanState (p : Nat) (o : Lo) (w : World) (M I : BS) (H : Hp ⟨w, M, I⟩ [blk p (loC o) 141] [] w) :
    Ctr Tryz.prog 32 [.pointer (some ⟨p, 0, none⟩)] w M I (fun _ : Unit => stV o.x) (fun _ => True) (fun _ => [blk p (loC o) 141]) (fun _ => []) := by
  refine Exe.of_ev tok Tryz.call32 Tryz.func32 rfl rfl rfl ?_
  refine alloc_as tok H (stC st0) rfl rfl rfl fun r w1 H1 => ?_
  refine load_rule tok H1 (v := stV o.x) rfl ?_
  refine store_as tok H1 (stC o.x) rfl rfl rfl rfl rfl fun w2 H2 => ?_
  exact Exists.intro ⟨r, 0, none⟩ (Exists.intro (stV o.x) (And.intro rfl (And.intro (Hp.ld (T := tb) tok H2 rfl) (Exists.intro () (And.intro rfl (And.intro trivial (Hp.keep H2)))))))
theorem storyTerms (sb : Nat) (S : Sto) (dv : SV) (w : World) (M I : BS) (H : Hp ⟨w, M, I⟩ [blk sb (stoC S dv) 120] [] w) :
    Ctr Tryz.prog 112 [.pointer (some ⟨sb, 0, none⟩)] w M I (fun _ : Unit => tmV S.t) (fun _ => True) (fun _ => [blk sb (stoC S dv) 120]) (fun _ => []) := by
  refine Exe.of_ev tok Tryz.call112 Tryz.func112 rfl rfl rfl ?_
  refine alloc_as tok H [.int .u8 0, .int .i64 0, .int .u32 0, .int .u8 0, .int .i64 0, .int .i32 0, .int .i64 0, .int .i64 0] rfl rfl rfl fun r w1 H1 => ?_
  refine load_rule tok H1 (v := tmV S.t) rfl ?_
  refine store_as tok H1 (tmC S.t) rfl rfl rfl rfl rfl fun w2 H2 => ?_
  exact Exists.intro ⟨r, 0, none⟩ (Exists.intro (tmV S.t) (And.intro rfl (And.intro (Hp.ld (T := tb) tok H2 rfl) (Exists.intro () (And.intro rfl (And.intro trivial (Hp.keep H2)))))))
theorem loanFind (p : Nat) (o : Lo) (hpn : o.pv.n = o.ps.length) (q : Int) (w : World) (M I : BS) (H : Hp ⟨w, M, I⟩ [blk p (loC o) 141, row 105 5 (.slice o.pv.A o.pv.n o.pv.c) o.pv.n (pasC o.ps)] [] w) :
    Ctr Tryz.prog 58 [.pointer (some ⟨p, 0, none⟩), .int .u32 q] w M I (fun _ : Unit => .int .i64 (findI q o.ps 0)) (fun _ => True) (fun _ => [blk p (loC o) 141, row 105 5 (.slice o.pv.A o.pv.n o.pv.c) o.pv.n (pasC o.ps)]) (fun _ => []) := by
  refine Exe.of_ev tok Tryz.call58 Tryz.func58 rfl rfl rfl ?_
  refine box_as H [.int .u32 q] rfl fun b w1 H1 => ?_
  refine load_rule tok H1 (v := .slice o.pv.A o.pv.n o.pv.c) rfl ?_
  refine call_rule H1 (fun M I _ h => idxP o.pv.A o.pv.n o.pv.c o.ps hpn b q _ _ (by exact map0 _) (by exact map1 _ _) _ M I h) fun _ w2 _ H2 => ?_
  exact Exists.intro () (And.intro rfl (And.intro trivial (Hp.keep H2)))
set_option maxRecDepth 20000 in
theorem loanFault (p : Nat) (o : Lo) (hl : inK .u32 o.S.loan) (cd : Int) (w : World) (M I : BS) (H : Hp ⟨w, M, I⟩ [blk p (loC o) 141] [] w) :
    Ctr Tryz.prog 56 [.pointer (some ⟨p, 0, none⟩), .iface 100 (.int .i64 cd)] w M I (fun f : Nat => errFV (.fault f o.S.loan cd)) (fun _ => True) (fun f => [errFA (.fault f o.S.loan cd), blk p (loC o) 141]) (fun _ => []) := by
  have hl0 : 0 ≤ o.S.loan ∧ o.S.loan ≤ 4294967295 := hl
  have e1 : IntKind.u64.wrap o.S.loan = o.S.loan := by
    simp [IntKind.wrap, IntKind.signed, IntKind.bits]
    omega
  refine Exe.of_ev tok Tryz.call56 Tryz.func56 rfl rfl rfl ?_
  refine load_rule tok H (v := .int .u32 o.S.loan) rfl ?_
  refine box_as H [.int .u64 (IntKind.u64.wrap o.S.loan), .iface 100 (.int .i64 cd)] rfl fun f w1 H1 => ?_
  rw [e1] at H1
  refine Exists.intro f (And.intro rfl (And.intro trivial ?_))
  show Hp ⟨w, M, I⟩ [blk f [.int .u64 o.S.loan, .iface 100 (.int .i64 cd)] 118, blk p (loC o) 141] [] w1
  exact Hp.keep H1
/-- May something happen on a day, today? -/
def opnB (o : Lo) (d today : Int) : Bool := decide (o.S.t.start ≤ d) && (decide (d ≤ today) && (decide (d ≤ o.thr + 1) && decide (today - d < 30)))
theorem loanOpen (p : Nat) (o : Lo) (ok : LoOk o) (d today : Int) (hd : -2147483648 ≤ d ∧ d ≤ 2147483647) (ht : -2147483648 ≤ today ∧ today ≤ 2147483647) (w : World) (M I : BS) (H : Hp ⟨w, M, I⟩ [blk p (loC o) 141, blk o.sb (stoC o.S o.dv) 120] [] w) :
    Ctr Tryz.prog 59 [.pointer (some ⟨p, 0, none⟩), .int .i32 d, .int .i32 today] w M I (fun _ : Unit => .bool (opnB o d today)) (fun _ => True) (fun _ => [blk p (loC o) 141, blk o.sb (stoC o.S o.dv) 120]) (fun _ => []) := by
  have hst := ok.sto.ok.start
  have hthr := ok.thr
  have e1 : IntKind.i32.wrap (o.thr + 1) = o.thr + 1 := i32w (by omega) (by omega)
  have e2 : IntKind.i64.wrap (IntKind.i64.wrap today - IntKind.i64.wrap d) = today - d := by rw [i64w (n := today) (by omega) (by omega), i64w (n := d) (by omega) (by omega)]; exact i64w (by omega) (by omega)
  refine Exe.of_ev tok Tryz.call59 Tryz.func59 rfl rfl rfl ?_
  refine load_rule tok H (v := .pointer (some ⟨o.sb, 0, none⟩)) rfl ?_
  refine call_rule H (fun M I _ h => storyTerms o.sb o.S o.dv _ M I h) fun _ w1 _ H1 => ?_
  refine brd (fun q1 => ?_) (fun q1 => ?_)
  · refine brd (fun q2 => ?_) (fun q2 => ?_)
    · refine load_rule tok H1 (v := .int .i32 o.thr) rfl ?_
      refine brd (fun q3 => ?_) (fun q3 => ?_)
      · refine Exists.intro () (And.intro (congrArg Value.bool ?_) (And.intro trivial (Hp.keep H1)))
        have q1 : o.S.t.start ≤ d := q1
        rw [e1] at q3
        show decide (IntKind.i64.wrap (IntKind.i64.wrap today - IntKind.i64.wrap d) < 30) = _
        unfold opnB
        rw [e2, decide_eq_true q1, decide_eq_true q2, decide_eq_true q3]
        rfl
      · refine Exists.intro () (And.intro (congrArg Value.bool ?_) (And.intro trivial (Hp.keep H1)))
        have q1 : o.S.t.start ≤ d := q1
        rw [e1] at q3
        unfold opnB
        rw [decide_eq_true q1, decide_eq_true q2, decide_eq_false q3]
        rfl
    · refine Exists.intro () (And.intro (congrArg Value.bool ?_) (And.intro trivial (Hp.keep H1)))
      have q1 : o.S.t.start ≤ d := q1
      unfold opnB
      rw [decide_eq_true q1, decide_eq_false q2]
      rfl
  · refine Exists.intro () (And.intro (congrArg Value.bool ?_) (And.intro trivial (Hp.keep H1)))
    have q1 : ¬ o.S.t.start ≤ d := q1
    unfold opnB
    rw [decide_eq_false q1]
    rfl
end Go.Proofs.YtjlfjjgjghdokaaGreatDoor
set_option linter.unusedVariables false
namespace Go.Proofs.YtjlfjjgjghdokaaGreatDoor
open Go Go.Proofs Go.Wk
/-- What taking an event answers. -/
def takeE (o : Lo) (e : Ev) (today : Int) : Option Int :=
  if evRB e = false then some 1
  else if 0 ≤ findI e.seq o.ps 0 then some 10
  else if opnB o e.day today = false then some 11
  else if o.x.status = 2 then some 9
  else if o.x.status = 3 ∧ e.kind ≠ 4 then some 14
  else none
structure TkR where
  e : ErrF
  o : Lo
def tkOk (o : Lo) (e : Ev) (today : Int) (r : TkR) : Prop := match takeE o e today with
  | some c => (∃ f, r.e = .fault f o.S.loan c) ∧ r.o = o
  | none => r.e = .none ∧ r.o.S = o.S ∧ r.o.sb = o.sb ∧ r.o.dv = o.dv ∧ r.o.thr = o.thr ∧ r.o.ps = o.ps ++ [(⟨e, false⟩ : Pa)] ∧ LoOk r.o ∧ told o.S o.thr (o.ps ++ [(⟨e, false⟩ : Pa)]) r.o.x (r.o.h.es.map kl)
theorem pasC_snoc (l : List Pa) (x : Pa) : pasC l ++ paC x = pasC (l ++ [x]) := (flatL_snoc (f := paC) l x).symm
theorem evRB_amt {e : Ev} (h : ¬ evRB e = false) : EvA e := by
  have h : evRB e = true := by simpa using h
  unfold evRB at h
  split at h
  · simp only [Bool.and_eq_true, decide_eq_true_eq, coinB] at h
    exact ⟨by omega, by omega⟩
  · split at h
    · simp only [Bool.and_eq_true, beq_iff_eq] at h
      exact ⟨by omega, by omega⟩
    · cases h
theorem takenOk {o : Lo} (ok : LoOk o) (h18 : o.ps.length ≤ 18) {e : Ev} (n1 : ¬ evRB e = false) (A2 : Option Addr) (c2 : Nat) : LoOk { o with ps := o.ps ++ [(⟨e, false⟩ : Pa)], pv := ⟨A2, o.pv.n + 1, c2⟩ } := by
  refine ⟨ok.sto, ?_, ?_, ?_, ok.thr, ok.loan⟩
  · show o.pv.n + 1 = (o.ps ++ [(⟨e, false⟩ : Pa)]).length
    rw [List.length_append, ok.pn]
    rfl
  · intro q hq
    rcases List.mem_append.1 hq with hq | hq
    · exact ok.ev q hq
    · rw [List.mem_singleton] at hq
      rw [hq]
      exact evRB_amt n1
  · show (o.ps ++ [(⟨e, false⟩ : Pa)]).length ≤ 19
    rw [List.length_append]
    show o.ps.length + 1 ≤ 19
    omega
set_option maxHeartbeats 2000000 in
set_option maxRecDepth 20000 in
theorem loanTake (p : Nat) (o : Lo) (ok : LoOk o) (h18 : o.ps.length ≤ 18) (e : Ev) (hday : -2147483648 ≤ e.day ∧ e.day ≤ 2147483647) (today : Int) (ht : -2147483648 ≤ today ∧ today ≤ 2147483647) (w : World) (M I : BS) (H : Hp ⟨w, M, I⟩ (loA p o) (loF o) w) :
    Ctr Tryz.prog 30 [.pointer (some ⟨p, 0, none⟩), evV e, .int .i32 today] w M I (fun r : TkR => errFV r.e) (tkOk o e today) (fun r => errFA r.e :: loA p r.o) (fun r => loF r.o) := by
  have hpn := ok.pn
  have hln := ok.loan
  refine Exe.of_ev tok Tryz.call30 Tryz.func30 rfl rfl rfl ?_
  refine box_as H (evC e) rfl fun eb w1 H1 => ?_
  have fail : ∀ (c : Int) (f : Nat) (w' : World), takeE o e today = some c → Hp ⟨w, M, I⟩ (errFA (.fault f o.S.loan c) :: loA p o) (loF o) w' → ∃ r : TkR, errFV (.fault f o.S.loan c) = errFV r.e ∧ tkOk o e today r ∧ Hp ⟨w, M, I⟩ (errFA r.e :: loA p r.o) (loF r.o) w' := fun c f w' hc h => by
    refine ⟨⟨.fault f o.S.loan c, o⟩, rfl, ?_, h⟩
    unfold tkOk
    rw [hc]
    exact ⟨⟨f, rfl⟩, rfl⟩
  refine load_rule tok H1 (v := evV e) rfl ?_
  refine call_rule H1 (fun M I _ h => evRight e _ M I h) fun _ w2 _ H2 => ?_
  refine br (fun q1 => ?_) (fun q1 => ?_)
  · have q1 : evRB e = false := by
      have q1 : (!evRB e) = true := q1
      simpa using q1
    refine call_rule H2 (fun M I _ h => loanFault p o hln 1 _ M I h) fun f w3 _ H3 => ?_
    exact fail 1 f w3 (by unfold takeE; rw [if_pos q1]) (Hp.keep H3)
  have n1 : ¬ evRB e = false := by
    have q1 : (!evRB e) = false := q1
    simpa using q1
  refine load_rule tok H2 (v := .int .u32 e.seq) rfl ?_
  refine call_rule H2 (fun M I _ h => loanFind p o hpn e.seq _ M I h) fun _ w3 _ H3 => ?_
  refine brd (fun q2 => ?_) (fun q2 => ?_)
  · refine call_rule H3 (fun M I _ h => loanFault p o hln 10 _ M I h) fun f w4 _ H4 => ?_
    exact fail 10 f w4 (by unfold takeE; rw [if_neg n1, if_pos q2]) (Hp.keep H4)
  refine load_rule tok H3 (v := .slice o.pv.A o.pv.n o.pv.c) rfl ?_
  refine brd (fun q => absurd q (by show ¬ (500 : Int) ≤ (o.pv.n : Int); omega)) (fun _ => ?_)
  refine load_rule tok H3 (v := .int .i32 e.day) rfl ?_
  refine call_rule H3 (fun M I _ h => loanOpen p o ok e.day today hday ht _ M I h) fun _ w4 _ H4 => ?_
  refine br (fun q3 => ?_) (fun q3 => ?_)
  · have q3 : opnB o e.day today = false := by
      have q3 : (!opnB o e.day today) = true := q3
      simpa using q3
    refine call_rule H4 (fun M I _ h => loanFault p o hln 11 _ M I h) fun f w5 _ H5 => ?_
    exact fail 11 f w5 (by unfold takeE; rw [if_neg n1, if_neg q2, if_pos q3]) (Hp.keep H5)
  have n3 : ¬ opnB o e.day today = false := by
    have q3 : (!opnB o e.day today) = false := q3
    simpa using q3
  refine load_rule tok H4 (v := .int .u8 o.x.status) rfl ?_
  refine br (fun q4 => ?_) (fun q4 => ?_)
  · have q4 : o.x.status = 2 := eq_of_beq q4
    refine call_rule H4 (fun M I _ h => loanFault p o hln 9 _ M I h) fun f w5 _ H5 => ?_
    exact fail 9 f w5 (by unfold takeE; rw [if_neg n1, if_neg q2, if_neg n3, if_pos q4]) (Hp.keep H5)
  have n4 : ¬ o.x.status = 2 := ne_of_beq_false q4
  refine load_rule tok H4 (v := .int .u8 o.x.status) rfl ?_
  refine br (fun q5 => ?_) (fun q5 => ?_)
  · have q5 : o.x.status = 3 := eq_of_beq q5
    refine load_rule tok H4 (v := .int .u8 e.kind) rfl ?_
    refine br (fun q6 => ?_) (fun q6 => ?_)
    · have q6 : e.kind ≠ 4 := by
        have q6 : (!(e.kind == 4)) = true := q6
        simpa using q6
      refine call_rule H4 (fun M I _ h => loanFault p o hln 14 _ M I h) fun f w5 _ H5 => ?_
      exact fail 14 f w5 (by unfold takeE; rw [if_neg n1, if_neg q2, if_neg n3, if_neg n4, if_pos ⟨q5, q6⟩]) (Hp.keep H5)
    · have q6 : e.kind = 4 := by
        have q6 : (!(e.kind == 4)) = false := q6
        simpa using q6
      have hn : takeE o e today = none := by unfold takeE; rw [if_neg n1, if_neg q2, if_neg n3, if_neg n4, if_neg (fun hh => hh.2 q6)]
      have H4 : Hp ⟨w, M, I⟩ [blk p (loC o) 141, row 105 5 (.slice o.pv.A o.pv.n o.pv.c) o.pv.n (pasC o.ps), blk o.sb (stoC o.S o.dv) 120, row 71 5 (.slice o.h.A o.h.es.length o.h.c) o.h.es.length (ensC o.h.es), blk eb (evC e) 65] (loF o) w4 := Hp.keep H4
      refine draw_rule (A := [blk p (loC o) 141, row 105 5 (.slice o.pv.A o.pv.n o.pv.c) o.pv.n (pasC o.ps)]) tok tdr H4 [1, 2, 3, 4, 5, 6, 7, 8, 0, 9, 10, 11] [0, 0, 2, 6, 14, 0, 32, 96, 254, 511, 1023, 2047] rfl ?_
      refine pass_last _ rfl (fun X w h => load_rule tok h (v := .slice o.pv.A o.pv.n o.pv.c) rfl ⟨rfl, rfl⟩) ?_
      refine pass_rule _ (fun w h => load_rule tok h (v := evV e) rfl ⟨rfl, rfl⟩) ?_
      refine fresh_slice tok (paC ⟨e, false⟩) rfl rfl rfl rfl rfl rfl rfl fun g => ?_
      refine imp_rule (fun X wx h => append_rule (v := .slice o.pv.A o.pv.n o.pv.c) (b := g) (m := 1) (c := 1) tok h rfl rfl rfl rfl rfl rfl rfl rfl (by show (o.pv.n + 1) * 32 ≤ _; omega) (by omega) fun A2 c2 w5 H5 => imp_done H5 ?_)
      refine imp_rule (fun X wx h => store_as tok h (loC { o with pv := ⟨A2, o.pv.n + 1, c2⟩ }) rfl rfl rfl rfl rfl fun w5 H5 => imp_done H5 ?_)
      refine done_rule fun w6 H6 => ?_
      have H6 : Hp ⟨w, M, I⟩ (loA p { o with ps := o.ps ++ [(⟨e, false⟩ : Pa)], pv := ⟨A2, o.pv.n + 1, c2⟩ }) (loF o) w6 := by
        show Hp ⟨w, M, I⟩ [blk p (loC { o with pv := ⟨A2, o.pv.n + 1, c2⟩ }) 141, row 105 5 (.slice A2 (o.pv.n + 1) c2) (o.pv.n + 1) (pasC (o.ps ++ [(⟨e, false⟩ : Pa)])), blk o.sb (stoC o.S o.dv) 120, row 71 5 (.slice o.h.A o.h.es.length o.h.c) o.h.es.length (ensC o.h.es)] (loF o) w6
        rw [← pasC_snoc]
        exact Hp.keep H6
      have ok2 := takenOk ok h18 (n1 := n1) A2 c2
      refine call_rule H6 (fun M I _ h => ltell p { o with ps := o.ps ++ [(⟨e, false⟩ : Pa)], pv := ⟨A2, o.pv.n + 1, c2⟩ } ok2 _ M I h) fun a w7 ha H7 => ?_
      refine Exists.intro ⟨.none, { o with ps := o.ps ++ [(⟨e, false⟩ : Pa)], pv := ⟨A2, o.pv.n + 1, c2⟩, x := a.1, h := a.2 }⟩ (And.intro rfl (And.intro ?_ ?_))
      · unfold tkOk
        rw [hn]
        exact ⟨rfl, rfl, rfl, rfl, rfl, rfl, ⟨ok2.sto, ok2.pn, ok2.ev, ok2.few, ok2.thr, ok2.loan⟩, ha⟩
      · show Hp ⟨w, M, I⟩ (empA :: loA p { o with ps := o.ps ++ [(⟨e, false⟩ : Pa)], pv := ⟨A2, o.pv.n + 1, c2⟩, x := a.1, h := a.2 }) (loF { o with ps := o.ps ++ [(⟨e, false⟩ : Pa)], pv := ⟨A2, o.pv.n + 1, c2⟩, x := a.1, h := a.2 }) w7
        exact Hp.keep (Hp.addEmp H7)
  · have q5 : o.x.status ≠ 3 := ne_of_beq_false q5
    have hn : takeE o e today = none := by unfold takeE; rw [if_neg n1, if_neg q2, if_neg n3, if_neg n4, if_neg (fun hh => q5 hh.1)]
    have H4 : Hp ⟨w, M, I⟩ [blk p (loC o) 141, row 105 5 (.slice o.pv.A o.pv.n o.pv.c) o.pv.n (pasC o.ps), blk o.sb (stoC o.S o.dv) 120, row 71 5 (.slice o.h.A o.h.es.length o.h.c) o.h.es.length (ensC o.h.es), blk eb (evC e) 65] (loF o) w4 := Hp.keep H4
    refine draw_rule (A := [blk p (loC o) 141, row 105 5 (.slice o.pv.A o.pv.n o.pv.c) o.pv.n (pasC o.ps)]) tok tdr H4 [1, 2, 3, 4, 5, 6, 7, 8, 0, 9, 10, 11] [0, 0, 2, 6, 14, 0, 32, 96, 254, 511, 1023, 2047] rfl ?_
    refine pass_last _ rfl (fun X w h => load_rule tok h (v := .slice o.pv.A o.pv.n o.pv.c) rfl ⟨rfl, rfl⟩) ?_
    refine pass_rule _ (fun w h => load_rule tok h (v := evV e) rfl ⟨rfl, rfl⟩) ?_
    refine fresh_slice tok (paC ⟨e, false⟩) rfl rfl rfl rfl rfl rfl rfl fun g => ?_
    refine imp_rule (fun X wx h => append_rule (v := .slice o.pv.A o.pv.n o.pv.c) (b := g) (m := 1) (c := 1) tok h rfl rfl rfl rfl rfl rfl rfl rfl (by show (o.pv.n + 1) * 32 ≤ _; omega) (by omega) fun A2 c2 w5 H5 => imp_done H5 ?_)
    refine imp_rule (fun X wx h => store_as tok h (loC { o with pv := ⟨A2, o.pv.n + 1, c2⟩ }) rfl rfl rfl rfl rfl fun w5 H5 => imp_done H5 ?_)
    refine done_rule fun w6 H6 => ?_
    have H6 : Hp ⟨w, M, I⟩ (loA p { o with ps := o.ps ++ [(⟨e, false⟩ : Pa)], pv := ⟨A2, o.pv.n + 1, c2⟩ }) (loF o) w6 := by
      show Hp ⟨w, M, I⟩ [blk p (loC { o with pv := ⟨A2, o.pv.n + 1, c2⟩ }) 141, row 105 5 (.slice A2 (o.pv.n + 1) c2) (o.pv.n + 1) (pasC (o.ps ++ [(⟨e, false⟩ : Pa)])), blk o.sb (stoC o.S o.dv) 120, row 71 5 (.slice o.h.A o.h.es.length o.h.c) o.h.es.length (ensC o.h.es)] (loF o) w6
      rw [← pasC_snoc]
      exact Hp.keep H6
    have ok2 := takenOk ok h18 (n1 := n1) A2 c2
    refine call_rule H6 (fun M I _ h => ltell p { o with ps := o.ps ++ [(⟨e, false⟩ : Pa)], pv := ⟨A2, o.pv.n + 1, c2⟩ } ok2 _ M I h) fun a w7 ha H7 => ?_
    refine Exists.intro ⟨.none, { o with ps := o.ps ++ [(⟨e, false⟩ : Pa)], pv := ⟨A2, o.pv.n + 1, c2⟩, x := a.1, h := a.2 }⟩ (And.intro rfl (And.intro ?_ ?_))
    · unfold tkOk
      rw [hn]
      exact ⟨rfl, rfl, rfl, rfl, rfl, rfl, ⟨ok2.sto, ok2.pn, ok2.ev, ok2.few, ok2.thr, ok2.loan⟩, ha⟩
    · show Hp ⟨w, M, I⟩ (empA :: loA p { o with ps := o.ps ++ [(⟨e, false⟩ : Pa)], pv := ⟨A2, o.pv.n + 1, c2⟩, x := a.1, h := a.2 }) (loF { o with ps := o.ps ++ [(⟨e, false⟩ : Pa)], pv := ⟨A2, o.pv.n + 1, c2⟩, x := a.1, h := a.2 }) w7
      exact Hp.keep (Hp.addEmp H7)
end Go.Proofs.YtjlfjjgjghdokaaGreatDoor
set_option linter.unusedVariables false
namespace Go.Proofs.YtjlfjjgjghdokaaGreatDoor
open Go Go.Proofs Go.Wk
theorem ensC_one : ∀ (xs : List En), ∀ u ∈ ensC xs, u.oneCell' = true
  | [], u, h => by cases h
  | x :: r, u, h => by
    have h : u ∈ enC x ++ ensC r := h
    rcases List.mem_append.1 h with h | h
    · simp only [enC, List.mem_cons, List.not_mem_nil, or_false] at h
      rcases h with rfl | rfl | rfl | rfl | rfl <;> rfl
    · exact ensC_one r u h
theorem cloneEnt (h : Hd) (hn : h.es.length ≤ 100000) (w : World) (M I : BS) (H : Hp ⟨w, M, I⟩ [row 71 5 (.slice h.A h.es.length h.c) h.es.length (ensC h.es)] [] w) :
    Ctr Tryz.prog 115 [.slice h.A h.es.length h.c] w M I (fun a : SV => .slice a.A a.n a.c) (fun a => a.n = h.es.length) (fun a => [row 71 5 (.slice a.A a.n a.c) a.n (ensC h.es), row 71 5 (.slice h.A h.es.length h.c) h.es.length (ensC h.es)]) (fun _ => []) := by
  obtain ⟨A, c, es⟩ := h
  simp only at hn H ⊢
  obtain ⟨fa, ha⟩ := Hp.own (A := row 71 5 (.slice A es.length c) es.length (ensC es)) H
  rcases ha.1.2 with ⟨h1, h2⟩ | ⟨g, cap, cur, h1, _⟩
  · injection h1 with e1 e2 e3
    subst e1 e3
    have he : es = [] := List.eq_nil_of_length_eq_zero e2
    subst he
    refine Exe.of_ev tok Tryz.call115 Tryz.func115 rfl rfl rfl ?_
    have H2 : Hp ⟨w, M, I⟩ [row 71 5 (.slice none 0 0) 0 (ensC []), row 71 5 (.slice none 0 0) 0 (ensC [])] [] w := Hp.nil H 71 5
    exact Exists.intro ⟨none, 0, 0⟩ (And.intro rfl (And.intro rfl H2))
  · injection h1 with e1 e2 e3
    subst e1 e3
    refine Exe.of_ev tok Tryz.call115 Tryz.func115 rfl rfl rfl ?_
    refine slice_as tok H [] rfl rfl rfl rfl rfl rfl fun g2 w1 H1 => ?_
    have H2 : Hp ⟨w, M, I⟩ [row 71 5 (.slice (some ⟨g2, 0, none⟩) 0 0) 0 [], row 71 5 (.slice (some ⟨g, 0, none⟩) es.length c) es.length (ensC es)] [] w1 := H1.toRow 5 0 rfl (by decide)
    refine append_row (v := .slice (some ⟨g2, 0, none⟩) 0 0) (A := some ⟨g, 0, none⟩) (m := es.length) (c := c) tok H2 rfl rfl rfl rfl rfl rfl (ensC_one es) (by show (0 + es.length) * 40 ≤ _; omega) (by omega) fun A2 c2 w4 H4 => ?_
    exact Exists.intro ⟨A2, 0 + es.length, c2⟩ (And.intro rfl (And.intro (Nat.zero_add es.length) H4))
theorem sortedE (h : Hd) (hn : h.es.length ≤ 12) (w : World) (M I : BS) (H : Hp ⟨w, M, I⟩ [row 71 5 (.slice h.A h.es.length h.c) h.es.length (ensC h.es)] [EnF h.es] w) :
    Ctr Tryz.prog 61 [.slice h.A h.es.length h.c] w M I (fun s : Hd => .slice s.A s.es.length s.c) (fun s => s.es.Perm h.es ∧ srtE s.es) (fun s => [row 71 5 (.slice s.A s.es.length s.c) s.es.length (ensC s.es), row 71 5 (.slice h.A h.es.length h.c) h.es.length (ensC h.es)]) (fun s => [EnF s.es]) := by
  refine Exe.of_ev tok Tryz.call61 Tryz.func61 rfl rfl rfl ?_
  refine call_rule H (fun M I _ hh => cloneEnt h (by omega) _ M I hh) fun a w1 ha H1 => ?_
  have ha : a.n = h.es.length := ha
  have H2 : Hp ⟨w, M, I⟩ [row 71 5 (.slice a.A (⟨a.A, a.c, h.es⟩ : Hd).es.length a.c) (⟨a.A, a.c, h.es⟩ : Hd).es.length (ensC h.es), row 71 5 (.slice h.A h.es.length h.c) h.es.length (ensC h.es)] [EnF h.es] w1 := by
    show Hp ⟨w, M, I⟩ [row 71 5 (.slice a.A h.es.length a.c) h.es.length (ensC h.es), row 71 5 (.slice h.A h.es.length h.c) h.es.length (ensC h.es)] [EnF h.es] w1
    have e2 : row 71 5 (.slice a.A h.es.length a.c) h.es.length (ensC h.es) = row 71 5 (.slice a.A a.n a.c) a.n (ensC h.es) := by rw [ha]
    rw [e2]
    exact Hp.keep H1
  have hc : ∀ (w : World) (M I : BS), Hp ⟨w, M, I⟩ [row 71 5 (.slice a.A h.es.length a.c) h.es.length (ensC h.es)] [] w → Ctr Tryz.prog 66 [.slice a.A a.n a.c, .func (.func 116) #[] #[]] w M I (fun _ : List En => .tuple #[]) (fun l => l.Perm h.es ∧ srtE l) (fun l => [row 71 5 (.slice a.A h.es.length a.c) h.es.length (ensC l)]) (fun _ => []) := by
    rw [ha]
    exact fun w M I hh => sortHd 116 cmpB ⟨a.A, a.c, h.es⟩ hn w M I hh
  refine call_rule H2 (fun M I _ hh => hc _ M I hh) fun es w2 hes H3 => ?_
  have e1 : h.es.length = es.length := hes.1.length_eq.symm
  have H4 : Hp ⟨w, M, I⟩ [row 71 5 (.slice a.A es.length a.c) es.length (ensC es), row 71 5 (.slice h.A h.es.length h.c) h.es.length (ensC h.es)] [EnF es] w2 := by
    have H5 : Hp ⟨w, M, I⟩ [row 71 5 (.slice a.A h.es.length a.c) h.es.length (ensC es), row 71 5 (.slice h.A h.es.length h.c) h.es.length (ensC h.es)] [EnF h.es] w2 := Hp.keep H3
    have H6 := enF_perm hes.1 H5
    have e2 : (row 71 5 (.slice a.A es.length a.c) es.length (ensC es)) = row 71 5 (.slice a.A h.es.length a.c) h.es.length (ensC es) := by rw [e1]
    rw [e2]
    exact H6
  refine Exists.intro ⟨a.A, a.c, es⟩ (And.intro ?_ (And.intro hes H4))
  show Value.slice a.A a.n a.c = .slice a.A es.length a.c
  rw [ha, e1]
end Go.Proofs.YtjlfjjgjghdokaaGreatDoor
set_option linter.unusedVariables false
namespace Go.Proofs.YtjlfjjgjghdokaaGreatDoor
open Go Go.Proofs Go.Wk
def wantL (es : List En) : List (Key × En) := es.map fun x => (x.k, x)
theorem wantL_snoc (es : List En) (x : En) : wantL (es ++ [x]) = wantL es ++ [(x.k, x)] := by unfold wantL; rw [List.map_append]; rfl
theorem want_new {es : List En} {x : En} (h : (((es ++ [x]).map kl).map Prod.fst).Nodup) : lkI x.k (wantL es) 0 = none := by
  have hn : x.k ∉ (es.map kl).map Prod.fst := by
    rw [List.map_append, List.map_append] at h
    intro hm
    exact (List.nodup_append.1 h).2.2 _ hm x.k (by simp [kl]) rfl
  have gen : ∀ (l : List En) (i : Nat), x.k ∉ (l.map kl).map Prod.fst → lkI x.k (wantL l) i = none := by
    intro l
    induction l with
    | nil => intro i _; rfl
    | cons p r ih =>
      intro i hm
      rw [List.map_cons, List.map_cons, List.mem_cons, not_or] at hm
      show (if p.k = x.k then _ else lkI x.k (wantL r) (i + 1)) = none
      rw [if_neg (fun e => hm.1 e.symm)]
      exact ih (i + 1) hm.2
  exact gen es 0 hn
theorem want_lk {k : Key} : ∀ {es : List En}, lk k (wantL es) = none → ∀ ls, (k, ls) ∉ es.map kl
  | [], _, ls, hm => by cases hm
  | x :: r, h, ls, hm => by
    have h : (if x.k = k then some x else lk k (wantL r)) = none := h
    split at h
    · cases h
    · rename_i hne
      rw [List.map_cons] at hm
      rcases List.mem_cons.1 hm with e | hm
      · exact hne (congrArg Prod.fst e).symm
      · exact want_lk h ls hm
theorem want_some {k : Key} : ∀ {es : List En} {x : En}, lk k (wantL es) = some x → x ∈ es ∧ x.k = k
  | y :: r, x, h => by
    have h : (if y.k = k then some y else lk k (wantL r)) = some x := h
    split at h
    · rename_i e
      have e2 := Option.some.inj h
      rw [← e2]
      exact ⟨List.mem_cons_self, e⟩
    · obtain ⟨h1, h2⟩ := want_some h
      exact ⟨List.mem_cons_of_mem _ h1, h2⟩
/-- Alike: just if it is among the story's. -/
theorem same_in {E : List En} (hnd : ((E.map kl).map Prod.fst).Nodup) {x u : En} (hx : x ∈ E) (hk : x.k = u.k) : sameB x.k u.k x.ls u.ls = true ↔ kl u ∈ E.map kl := by
  unfold sameB
  rw [eqK_iff.2 hk, Bool.true_and, legsEq_iff]
  constructor
  · intro e
    have : kl x = kl u := by unfold kl; rw [hk, e]
    rw [← this]
    exact List.mem_map_of_mem hx
  · intro hm
    have := key_eq hnd (List.mem_map_of_mem (f := kl) hx) hm hk
    exact congrArg Prod.snd this
theorem en_in {w : World} {B : Base} {S : List Asn} {F : List Fact} (H : Hp B S F w) (es : List En) [hp : InF F (EnF es)] {x : En} (h : x ∈ es) : Hp B S (Sl legR (.slice x.s.A x.s.n x.s.c) x.ls :: F) w := H.facts fun I ha f hf => by
  rcases List.mem_cons.1 hf with rfl | hf
  · exact ha (EnF es) hp.mem x h
  · exact ha f hf
structure EOk (loan : Int) (E : List (Key × List Leg)) : Prop where
  ek : EK loan E
  right : ∀ e, e ∈ E → rightB e.1 e.2 = true
  kin : ∀ e, e ∈ E → keyIn e.1
  sml : ∀ e, e ∈ E → ∀ g, g ∈ e.2 → Go.Proofs.YtjlfjjgjghdokaaGreatDoor.sml g.amt
theorem takeS {α : Type} {l : List α} {i : Nat} {x : α} (h : l[i]? = some x) : l.take (i + 1) = l.take i ++ [x] := by
  obtain ⟨hi, e⟩ := List.getElem?_eq_some_iff.1 h
  rw [List.take_succ_eq_append_getElem hi, e]
theorem split_at {α : Type} {l : List α} {i : Nat} {x : α} (h : l[i]? = some x) : l = l.take i ++ x :: l.drop (i + 1) := by
  obtain ⟨hi, e⟩ := List.getElem?_eq_some_iff.1 h
  rw [← e, List.getElem_cons_drop, List.take_append_drop]
structure SS where
  i : Nat
  d : Led
set_option maxHeartbeats 8000000 in
set_option maxRecDepth 20000 in
theorem sync (p : Nat) (o : Lo) (l : Nat) (d0 : Led) (hI : Inv d0) (hd : d0.lns.length ≤ 90000) (X : Int) (hb : LB d0 X) (hX : X ≤ 4000000000000000000) (hlo : inK .u32 o.S.loan) (hE : EOk o.S.loan (o.h.es.map kl)) (h12 : o.h.es.length ≤ 12) (hl12 : (liveOf o.S.loan d0).length ≤ 12) (w : World) (M I : BS)
    (H : Hp ⟨w, M, I⟩ [blk p (loC o) 141, row 71 5 (.slice o.h.A o.h.es.length o.h.c) o.h.es.length (ensC o.h.es), ledO l d0] [EnF o.h.es, LnF d0.lns] w) :
    Ctr Tryz.prog 31 [.pointer (some ⟨p, 0, none⟩), .pointer (some ⟨l, 0, none⟩)] w M I (fun _ : Led => .nilIface) (fun d => SyncR d0 o.S.loan (o.h.es.map kl) X d) (fun d => [blk p (loC o) 141, row 71 5 (.slice o.h.A o.h.es.length o.h.c) o.h.es.length (ensC o.h.es), ledO l d]) (fun d => [LnF d.lns, EnF o.h.es]) := by
  refine Exe.of_ev tok Tryz.call31 Tryz.func31 rfl rfl rfl ?_
  refine makeMap_rule H keyV enV fun mp w1 H1 => ?_
  have H1 : Hp ⟨w, M, I⟩ [mapO mp keyV enV (wantL (o.h.es.take 0)), row 71 5 (.slice o.h.A o.h.es.length o.h.c) o.h.es.length (ensC o.h.es), blk p (loC o) 141, ledO l d0] [EnF o.h.es, LnF d0.lns] w1 := by
    have e0 : wantL (o.h.es.take 0) = [] := by rw [List.take_zero]; rfl
    rw [e0]
    exact Hp.keep H1
  refine load_rule tok H1 (v := .slice o.h.A o.h.es.length o.h.c) rfl ?_
  refine loop_out tok (σ := Nat) (τ := Unit) 8778913153152 1 (fun i => [(34, .int .i64 (i : Int))]) (fun i w' => i ≤ o.h.es.length ∧ Hp ⟨w, M, I⟩ [mapO mp keyV enV (wantL (o.h.es.take i)), row 71 5 (.slice o.h.A o.h.es.length o.h.c) o.h.es.length (ensC o.h.es), blk p (loC o) 141, ledO l d0] [EnF o.h.es, LnF d0.lns] w') (fun i => o.h.es.length - i) 0
    (fun _ => []) (fun _ w' => Hp ⟨w, M, I⟩ [mapO mp keyV enV (wantL o.h.es), row 71 5 (.slice o.h.A o.h.es.length o.h.c) o.h.es.length (ensC o.h.es), blk p (loC o) 141, ledO l d0] [EnF o.h.es, LnF d0.lns] w') rfl rfl ⟨rfl, trivial⟩ ⟨Nat.zero_le _, H1⟩ ?_ ?_
  · intro i j w2 hW
    have hi := hW.1
    have H2 := hW.2
    refine brd (fun q2 => ?_) (fun q2 => ?_)
    · have hil : i < o.h.es.length := Int.ofNat_lt.1 q2
      have ew : IntKind.i64.wrap ((i : Int) + 1) = ((i + 1 : Nat) : Int) := w64 (by omega) (by omega)
      refine Exists.elim (show ∃ u, o.h.es[i]? = some u from ⟨_, List.getElem?_eq_getElem hil⟩) fun u hu => ?_
      have ht := takeS hu
      have hnd : (((o.h.es.take i ++ [u]).map kl).map Prod.fst).Nodup := by
        rw [← ht, List.map_take, List.map_take]
        exact hE.ek.nd.sublist (List.take_sublist _ _)
      have hnew := want_new hnd
      have eput : putL u.k u (wantL (o.h.es.take i)) = wantL (o.h.es.take (i + 1)) := by rw [putL_none _ _ _ 0 hnew, ht, wantL_snoc]
      refine Exists.elim (row_at (A := o.h.A) (n := o.h.es.length) (c := o.h.c) H2 (by omega)) fun g hA => ?_
      refine idx_ownA tok hA rfl rfl (Int.natCast_nonneg i) q2 ?_
      refine row_ldA (A := o.h.A) (n := o.h.es.length) (c := o.h.c) tok H2 (enV u) hA (ens_get hu) ?_
      refine alloc_as tok H2 [.int .u32 0, .int .i32 0, .int .u8 0, .int .u32 0, .slice none 0 0] rfl rfl rfl fun y w3 H3 => ?_
      refine store_as tok H3 (enC u) rfl rfl rfl rfl rfl fun w4 H4 => ?_
      refine load_rule tok H4 (v := keyV u.k) rfl ?_
      refine load_rule tok H4 (v := enV u) rfl ?_
      refine mapUpd_rule (n := mp) (kf := keyV) (vf := enV) (l := wantL (o.h.es.take i)) (k := u.k) (v := u) tok H4 rfl keyKeys rfl rfl fun w5 H5 => ?_
      rw [eput] at H5
      refine Exists.intro (i + 1) (And.intro ⟨congrArg (Value.int .i64) ew, trivial⟩ (And.intro ?_ ⟨?_, Hp.keep H5⟩))
      · show o.h.es.length - (i + 1) < o.h.es.length - i
        omega
      · omega
    · have hie : i = o.h.es.length := by
        have q2 : ¬ (i : Int) < (o.h.es.length : Int) := q2
        omega
      have hall : o.h.es.take i = o.h.es := by rw [hie]; exact List.take_length
      rw [hall] at H2
      exact Exists.intro () (And.intro trivial (Hp.keep H2))
  intro _ j1 w2 H2
  refine load_rule tok H2 (v := .int .u32 o.S.loan) rfl ?_
  refine call_rule H2 (fun M I _ h => loanGood l d0 hI (by omega) o.S.loan hl12 _ M I h) fun hv w3 hhv H3 => ?_
  have hHl : hv.es.length ≤ 12 := by
    have e := hhv.1.length_eq
    rw [List.length_map] at e
    omega
  have hHp : (hv.es.map kl).Perm (liveOf o.S.loan d0) := hhv.1
  have H3 : Hp ⟨w, M, I⟩ [mapO mp keyV enV (wantL o.h.es), row 71 5 (.slice o.h.A o.h.es.length o.h.c) o.h.es.length (ensC o.h.es), row 71 5 (.slice hv.A hv.es.length hv.c) hv.es.length (ensC hv.es), blk p (loC o) 141, ledO l d0] [EnF hv.es, EnF o.h.es, LnF d0.lns] w3 := Hp.keep H3
  refine loop_out tok (σ := SS) (τ := Led) 37778930737057254874640 3 (fun s => [(50, .int .i64 (s.i : Int))]) (fun s w' => s.i ≤ hv.es.length ∧ St1 d0 ((hv.es.map kl).take s.i) (o.h.es.map kl) X s.d ∧ Hp ⟨w, M, I⟩ [mapO mp keyV enV (wantL o.h.es), row 71 5 (.slice o.h.A o.h.es.length o.h.c) o.h.es.length (ensC o.h.es), row 71 5 (.slice hv.A hv.es.length hv.c) hv.es.length (ensC hv.es), blk p (loC o) 141, ledO l s.d] [EnF hv.es, EnF o.h.es, LnF s.d.lns] w') (fun s => hv.es.length - s.i) ⟨0, d0⟩
    (fun _ => []) (fun d w' => St1 d0 (hv.es.map kl) (o.h.es.map kl) X d ∧ Hp ⟨w, M, I⟩ [mapO mp keyV enV (wantL o.h.es), row 71 5 (.slice o.h.A o.h.es.length o.h.c) o.h.es.length (ensC o.h.es), row 71 5 (.slice hv.A hv.es.length hv.c) hv.es.length (ensC hv.es), blk p (loC o) 141, ledO l d] [EnF hv.es, EnF o.h.es, LnF d.lns] w') rfl rfl ⟨rfl, trivial⟩ ⟨Nat.zero_le _, st1_nil hI hb, H3⟩ ?_ ?_
  · intro s j w4 hW
    have hi := hW.1
    have hS := hW.2.1
    have H4 := hW.2.2
    have hsl : (sans ((hv.es.map kl).take s.i) (o.h.es.map kl)).length ≤ 12 := by
      refine Nat.le_trans (List.length_filter_le _ _) ?_
      rw [List.length_take]
      omega
    have hdl : s.d.lns.length ≤ 100000 := by
      have := hS.len
      omega
    refine brd (fun q2 => ?_) (fun q2 => ?_)
    · have hil : s.i < hv.es.length := Int.ofNat_lt.1 q2
      have ew : IntKind.i64.wrap ((s.i : Int) + 1) = ((s.i + 1 : Nat) : Int) := w64 (by omega) (by omega)
      refine Exists.elim (show ∃ u, hv.es[s.i]? = some u from ⟨_, List.getElem?_eq_getElem hil⟩) fun u hu => ?_
      have hku : (hv.es.map kl)[s.i]? = some (kl u) := by rw [List.getElem?_map, hu]; rfl
      have ht := takeS hku
      have hsp := split_at hku
      have hlv : lv s.d u.k = some u.ls := st1_at hI hHp hsp hS
      refine Exists.elim (row_at (A := hv.A) (n := hv.es.length) (c := hv.c) H4 (by omega)) fun g hA => ?_
      have H4b := hpEn H4 hv.es hu
      have hnu := H4b.sll (A := u.s.A) (n := u.s.n) (c := u.s.c) (r := legR) (xs := u.ls)
      refine idx_ownA tok hA rfl rfl (Int.natCast_nonneg s.i) q2 ?_
      refine row_ldA (A := hv.A) (n := hv.es.length) (c := hv.c) tok H4b (enV u) hA (ens_get hu) ?_
      refine alloc_as tok H4b [.int .u32 0, .int .i32 0, .int .u8 0, .int .u32 0, .slice none 0 0] rfl rfl rfl fun y w5 H5 => ?_
      refine store_as tok H5 (enC u) rfl rfl rfl rfl rfl fun w6 H6 => ?_
      refine load_rule tok H6 (v := keyV u.k) rfl ?_
      refine Exists.elim (lv_some hS.inv hlv) fun ix hix => Exists.elim hix fun lx hlx => ?_
      have hkin : keyIn u.k := by
        have := (hS.inv.ok lx (List.mem_of_getElem? hlx.2.2.1)).2.1
        rw [hlx.2.2.2.1] at this
        exact this
      have hXb : X + 100000000000000000 * ((sans ((hv.es.map kl).take s.i) (o.h.es.map kl)).length : Int) ≤ 8000000000000000000 := by omega
      refine (Option.eq_none_or_eq_some (lk u.k (wantL o.h.es))).elim (fun hno => ?_) (fun hsome => ?_)
      · have hnot : kl u ∉ o.h.es.map kl := want_lk hno u.ls
        refine lookup_ok_rule (n := mp) (kf := keyV) (vf := enV) (l := wantL o.h.es) (k := u.k) (v := .tuple #[.agg #[.int .u32 0, .int .i32 0, .int .u8 0, .int .u32 0, .slice none 0 0], .bool false]) tok H6 rfl rfl rfl keyKeys rfl (by rw [hno]; rfl) ?_
        refine alloc_as tok H6 [.int .u32 0, .int .i32 0, .int .u8 0, .int .u32 0, .slice none 0 0] rfl rfl rfl fun y2 w7 H7 => ?_
        refine store_as tok H7 [.int .u32 0, .int .i32 0, .int .u8 0, .int .u32 0, .slice none 0 0] rfl rfl rfl rfl rfl fun w7b H7b => ?_
        refine load_rule tok H7b (v := keyV u.k) rfl ?_
        refine call_rule H7b (fun M I _ h => revGood l s.d hS.inv hdl _ hS.lb hXb u.k hkin ix hlx.1 _ M I h) fun d' w8 hr H8 => ?_
        have hst := St1.rev (h := kl u) hS hnot rfl hr
        refine Exists.intro ⟨s.i + 1, d'⟩ (And.intro ⟨congrArg (Value.int .i64) ew, trivial⟩ (And.intro ?_ ⟨?_, ?_, Hp.keep H8⟩))
        · show hv.es.length - (s.i + 1) < hv.es.length - s.i
          omega
        · show s.i + 1 ≤ hv.es.length
          omega
        · show St1 d0 ((hv.es.map kl).take (s.i + 1)) (o.h.es.map kl) X d'
          rw [ht]
          exact hst
      · refine Exists.elim hsome fun x hx => ?_
        have hxx := want_some hx
        have hiff := same_in hE.ek.nd hxx.1 hxx.2
        have H6b := en_in H6 o.h.es hxx.1
        have hnx := H6b.sll (A := x.s.A) (n := x.s.n) (c := x.s.c) (r := legR) (xs := x.ls)
        have hxl : x.ls.length ≤ 9223372036854775807 := Nat.le_trans hnx.2.1 hnx.2.2
        refine lookup_ok_rule (n := mp) (kf := keyV) (vf := enV) (l := wantL o.h.es) (k := u.k) (v := .tuple #[enV x, .bool true]) tok H6b rfl rfl rfl keyKeys rfl (by rw [hx]; rfl) ?_
        refine alloc_as tok H6b [.int .u32 0, .int .i32 0, .int .u8 0, .int .u32 0, .slice none 0 0] rfl rfl rfl fun y2 w7 H7 => ?_
        refine store_as tok H7 (enC x) rfl rfl rfl rfl rfl fun w7b H7b => ?_
        refine load_rule tok H7b (v := enV x) rfl ?_
        refine load_rule tok H7b (v := enV u) rfl ?_
        refine call_rule H7b (fun M I _ h => same_ x.k u.k x.s.A u.s.A x.s.n x.s.c u.s.n u.s.c x.ls u.ls _ M I h ⟨hnx.1, hxl⟩ hnu.1) fun _ w8 _ H8 => ?_
        refine br (fun q3 => ?_) (fun q3 => ?_)
        · have hin := hiff.1 q3
          refine Exists.intro ⟨s.i + 1, s.d⟩ (And.intro ⟨congrArg (Value.int .i64) ew, trivial⟩ (And.intro ?_ ⟨?_, ?_, Hp.keep H8⟩))
          · show hv.es.length - (s.i + 1) < hv.es.length - s.i
            omega
          · show s.i + 1 ≤ hv.es.length
            omega
          · show St1 d0 ((hv.es.map kl).take (s.i + 1)) (o.h.es.map kl) X s.d
            rw [ht]
            exact St1.keep hS hin
        · have hnot : kl u ∉ o.h.es.map kl := fun hm => by
            have q4 := hiff.2 hm
            rw [q3] at q4
            cases q4
          refine load_rule tok H8 (v := keyV u.k) rfl ?_
          refine call_rule H8 (fun M I _ h => revGood l s.d hS.inv hdl _ hS.lb hXb u.k hkin ix hlx.1 _ M I h) fun d' w8 hr H8 => ?_
          have hst := St1.rev (h := kl u) hS hnot rfl hr
          refine Exists.intro ⟨s.i + 1, d'⟩ (And.intro ⟨congrArg (Value.int .i64) ew, trivial⟩ (And.intro ?_ ⟨?_, ?_, Hp.keep H8⟩))
          · show hv.es.length - (s.i + 1) < hv.es.length - s.i
            omega
          · show s.i + 1 ≤ hv.es.length
            omega
          · show St1 d0 ((hv.es.map kl).take (s.i + 1)) (o.h.es.map kl) X d'
            rw [ht]
            exact hst
    · have hie : s.i = (hv.es.map kl).length := by
        have q2 : ¬ (s.i : Int) < (hv.es.length : Int) := q2
        rw [List.length_map]
        omega
      have hall : (hv.es.map kl).take s.i = hv.es.map kl := by rw [hie]; exact List.take_length
      rw [hall] at hS
      exact Exists.intro s.d (And.intro trivial ⟨hS, Hp.keep H4⟩)
  intro d1 j3 w4 hW4
  have hS1 := hW4.1
  have H4 := hW4.2
  have hs1l : (sans (hv.es.map kl) (o.h.es.map kl)).length ≤ 12 := by
    refine Nat.le_trans (List.length_filter_le _ _) ?_
    rw [List.length_map]
    exact hHl
  have hd1l : d1.lns.length ≤ 90012 := by
    have := hS1.len
    omega
  refine load_rule tok H4 (v := .slice o.h.A o.h.es.length o.h.c) rfl ?_
  refine call_rule H4 (fun M I _ h => sortedE o.h h12 _ M I h) fun sv w5 hsv H5 => ?_
  have hSp : (sv.es.map kl).Perm (o.h.es.map kl) := hsv.1.map kl
  have hsl12 : sv.es.length ≤ 12 := by
    have := hsv.1.length_eq
    omega
  refine Exists.elim (show ∃ Y, Y = X + 100000000000000000 * ((sans (hv.es.map kl) (o.h.es.map kl)).length : Int) from ⟨_, rfl⟩) fun Y hY => ?_
  have hb1 : LB d1 Y := by rw [hY]; exact hS1.lb
  have H5 : Hp ⟨w, M, I⟩ [row 71 5 (.slice o.h.A o.h.es.length o.h.c) o.h.es.length (ensC o.h.es), row 71 5 (.slice sv.A sv.es.length sv.c) sv.es.length (ensC sv.es), blk p (loC o) 141, ledO l d1] [EnF sv.es, EnF o.h.es, LnF d1.lns] w5 := Hp.keep H5
  refine loop_rule tok (σ := SS) 1298074212215855267903365733138448 (fun s => [(81, .int .i64 (s.i : Int))]) (fun s w' => s.i ≤ sv.es.length ∧ St2 d1 (hv.es.map kl) ((sv.es.map kl).take s.i) (o.h.es.map kl) Y s.d ∧ Hp ⟨w, M, I⟩ [row 71 5 (.slice o.h.A o.h.es.length o.h.c) o.h.es.length (ensC o.h.es), row 71 5 (.slice sv.A sv.es.length sv.c) sv.es.length (ensC sv.es), blk p (loC o) 141, ledO l s.d] [EnF sv.es, EnF o.h.es, LnF s.d.lns] w') (fun s => sv.es.length - s.i) ⟨0, d1⟩ rfl rfl ⟨rfl, trivial⟩ ⟨Nat.zero_le _, st2_nil hS1.inv hb1, H5⟩ ?_
  intro s j w6 hW
  have hi := hW.1
  have hS := hW.2.1
  have H6 := hW.2.2
  have hsl : (sans ((sv.es.map kl).take s.i) (hv.es.map kl)).length ≤ 12 := by
    refine Nat.le_trans (List.length_filter_le _ _) ?_
    rw [List.length_take]
    omega
  have hdl : s.d.lns.length ≤ 99000 := by
    have := hS.len
    omega
  refine brd (fun q2 => ?_) (fun q2 => ?_)
  · have hil : s.i < sv.es.length := Int.ofNat_lt.1 q2
    have ew : IntKind.i64.wrap ((s.i : Int) + 1) = ((s.i + 1 : Nat) : Int) := w64 (by omega) (by omega)
    refine Exists.elim (show ∃ u, sv.es[s.i]? = some u from ⟨_, List.getElem?_eq_getElem hil⟩) fun u hu => ?_
    have hku : (sv.es.map kl)[s.i]? = some (kl u) := by rw [List.getElem?_map, hu]; rfl
    have ht := takeS hku
    have hsp := split_at hku
    have hpp : ((sv.es.map kl).take s.i ++ kl u :: (sv.es.map kl).drop (s.i + 1)).Perm (o.h.es.map kl) := by rw [← hsp]; exact hSp
    have huE : kl u ∈ o.h.es.map kl := hpp.mem_iff.1 (by simp)
    have hkin : keyIn u.k := hE.kin _ huE
    have hri : rightB u.k u.ls = true := hE.right _ huE
    have hsm : ∀ g, g ∈ u.ls → sml g.amt := hE.sml _ huE
    have hXb : Y + 100000000000000000 * ((sans ((sv.es.map kl).take s.i) (hv.es.map kl)).length : Int) ≤ 8000000000000000000 := by omega
    refine Exists.elim (row_at (A := sv.A) (n := sv.es.length) (c := sv.c) H6 (by omega)) fun g hA => ?_
    have H6b := hpEn H6 sv.es hu
    have hnu := H6b.sll (A := u.s.A) (n := u.s.n) (c := u.s.c) (r := legR) (xs := u.ls)
    refine idx_ownA tok hA rfl rfl (Int.natCast_nonneg s.i) q2 ?_
    refine row_ldA (A := sv.A) (n := sv.es.length) (c := sv.c) tok H6b (enV u) hA (ens_get hu) ?_
    refine alloc_as tok H6b [.int .u32 0, .int .i32 0, .int .u8 0, .int .u32 0, .slice none 0 0] rfl rfl rfl fun y w7 H7 => ?_
    refine store_as tok H7 (enC u) rfl rfl rfl rfl rfl fun w8 H8 => ?_
    refine load_rule tok H8 (v := enV u) rfl ?_
    refine (Classical.em (kl u ∈ hv.es.map kl)).elim (fun hin => ?_) (fun hout => ?_)
    · have hlv : lv s.d u.k = some u.ls := st2_in hI hHp hE.ek hS1 hpp hS hin
      refine Exists.elim (lv_some hS.inv hlv) fun ix hix => Exists.elim hix fun lx hlx => ?_
      have hx0 := hlx.2.1
      have hi1 : lk u.k s.d.live = some ((ix.toNat : Nat) : Int) := by rw [Int.toNat_of_nonneg hx0]; exact hlx.1
      have hsame : sameB lx.k u.k lx.ls u.ls = true := by rw [hlx.2.2.2.1, hlx.2.2.2.2]; exact sameSelf _ _
      refine call_rule H8 (fun M I _ h => postTwice l s.d hS.inv (by omega) u.k hkin (by rw [hlx.1]; rfl) u.s.A u.s.n u.s.c u.ls hri _ M I h) fun f w9 _ H9 => ?_
      refine load_rule tok H9 (v := keyV u.k) rfl ?_
      refine call_rule H9 (fun M I _ h => liveGood l s.d hS.inv (by omega) u.k ix.toNat lx hi1 hlx.2.2.1 _ M I h) fun a w10 _ H10 => ?_
      have hna := H10.sll (A := a.A) (n := a.n) (c := a.c) (r := legR) (xs := lx.ls)
      have hal : lx.ls.length ≤ 9223372036854775807 := Nat.le_trans hna.2.1 hna.2.2
      refine alloc_as tok H10 [.int .u32 0, .int .i32 0, .int .u8 0, .int .u32 0, .slice none 0 0] rfl rfl rfl fun y2 w11 H11 => ?_
      refine store_as tok H11 [.int .u32 lx.k.loan, .int .i32 lx.k.day, .int .u8 lx.k.kind, .int .u32 lx.k.seq, .slice a.A a.n a.c] rfl rfl rfl rfl rfl fun w12 H12 => ?_
      refine call_rule H12 (fun M I _ h => isTwice f u.k.loan _ M I h) fun _ w13 _ H13 => ?_
      refine load_rule tok H13 (v := .agg #[.int .u32 lx.k.loan, .int .i32 lx.k.day, .int .u8 lx.k.kind, .int .u32 lx.k.seq, .slice a.A a.n a.c]) rfl ?_
      refine load_rule tok H13 (v := enV u) rfl ?_
      refine call_rule H13 (fun M I _ h => same_ lx.k u.k a.A u.s.A a.n a.c u.s.n u.s.c lx.ls u.ls _ M I h ⟨hna.1, hal⟩ hnu.1) fun _ w14 _ H14 => ?_
      refine br (fun _ => ?_) (fun q3 => absurd (hsame.symm.trans q3) (by decide))
      refine Exists.intro ⟨s.i + 1, s.d⟩ (And.intro ⟨congrArg (Value.int .i64) ew, trivial⟩ (And.intro ?_ ⟨?_, ?_, Hp.keep H14⟩))
      · show sv.es.length - (s.i + 1) < sv.es.length - s.i
        omega
      · show s.i + 1 ≤ sv.es.length
        omega
      · show St2 d1 (hv.es.map kl) ((sv.es.map kl).take (s.i + 1)) (o.h.es.map kl) Y s.d
        rw [ht]
        exact St2.keep hS hin
    · have hlv : lv s.d u.k = none := st2_out hI hHp hE.ek hS1 hpp hS hout
      have hno := (lv_none hS.inv).1 hlv
      refine call_rule H8 (fun M I _ h => postNew l s.d hS.inv (by omega) _ hS.lb hXb u.k hkin hno u.s.A u.s.n u.s.c u.ls hri hsm _ M I h) fun d' w9 hpr H9 => ?_
      have hst := St2.post (h := kl u) hS hout (lkE hE.ek.nd huE) rfl hpr
      refine Exists.elim hpr.lns fun sw hsw => ?_
      have hl1 : lk u.k d'.live = some ((s.d.lns.length : Nat) : Int) := by rw [hpr.live, lk_put_eq]
      have hl2 : d'.lns[s.d.lns.length]? = some ⟨u.k, sw, 0, u.ls⟩ := by
        rw [hsw, List.getElem?_append_right (Nat.le_refl _), Nat.sub_self]
        rfl
      have hdl2 : d'.lns.length ≤ 100000 := by
        rw [hsw, List.length_append]
        show s.d.lns.length + 1 ≤ 100000
        omega
      refine load_rule tok H9 (v := keyV u.k) rfl ?_
      refine call_rule H9 (fun M I _ h => liveGood l d' hpr.inv hdl2 u.k s.d.lns.length ⟨u.k, sw, 0, u.ls⟩ hl1 hl2 _ M I h) fun a w10 _ H10 => ?_
      refine alloc_as tok H10 [.int .u32 0, .int .i32 0, .int .u8 0, .int .u32 0, .slice none 0 0] rfl rfl rfl fun y2 w11 H11 => ?_
      refine store_as tok H11 [.int .u32 u.k.loan, .int .i32 u.k.day, .int .u8 u.k.kind, .int .u32 u.k.seq, .slice a.A a.n a.c] rfl rfl rfl rfl rfl fun w12 H12 => ?_
      refine call_rule H12 (fun M I _ h => isNo _ M I h) fun _ w13 _ H13 => ?_
      refine Exists.intro ⟨s.i + 1, d'⟩ (And.intro ⟨congrArg (Value.int .i64) ew, trivial⟩ (And.intro ?_ ⟨?_, ?_, Hp.keep H13⟩))
      · show sv.es.length - (s.i + 1) < sv.es.length - s.i
        omega
      · show s.i + 1 ≤ sv.es.length
        omega
      · show St2 d1 (hv.es.map kl) ((sv.es.map kl).take (s.i + 1)) (o.h.es.map kl) Y d'
        rw [ht]
        exact hst
  · have hie : s.i = (sv.es.map kl).length := by
      have q2 : ¬ (s.i : Int) < (sv.es.length : Int) := q2
      rw [List.length_map]
      omega
    have hall : (sv.es.map kl).take s.i = sv.es.map kl := by rw [hie]; exact List.take_length
    rw [hall] at hS
    exact Exists.intro s.d (And.intro rfl (And.intro (sync_end hI hHp hE.ek hSp hS1 hY hS) (Hp.keep H6)))
end Go.Proofs.YtjlfjjgjghdokaaGreatDoor
