/- A loan: it is made, run, asked: the walks. -/
import Derived.Test.YtjlfjjgjghdokaaGreatDoorLw22
set_option linter.unusedVariables false
namespace Go.Proofs.YtjlfjjgjghdokaaGreatDoor
open Go Go.Proofs Go.Wk
structure NewLo (id : Int) (t : Tm) (hs : List Int) (o : Lo) : Prop where
  loan : o.S.loan = id
  tm : o.S.t = t
  dues : DuesR t hs t.months.toNat o.S.dues
  ps : o.ps = []
  thr : o.thr = t.start - 1
  ok : LoOk o
  told : told o.S o.thr o.ps o.x (o.h.es.map kl)
set_option maxRecDepth 20000 in
theorem loanNew (id : Int) (hid : inK .u32 id) (t : Tm) (hin : TmIn t) (A : Option Addr) (n c : Nat) (hs : List Int) (ht : tmB t = true) (hh : holyB hs = true) (w : World) (M I : BS) (hM : ∀ b, ¬ M b) (H : Hp ⟨w, M, I⟩ [] [Sl dayR (.slice A n c) hs] w) :
    Ctr Tryz.prog 27 [.int .u32 id, tmV t, .slice A n c] w M I (fun a : Nat × Lo => .tuple #[.pointer (some ⟨a.1, 0, none⟩), .nilIface]) (fun a => NewLo id t hs a.2) (fun a => loA a.1 a.2) (fun a => [EnF a.2.h.es, Sl dueR (.slice a.2.dv.A a.2.dv.n a.2.dv.c) a.2.S.dues]) := by
  have ok := tmB_iff.1 ht
  have hst := ok.start
  refine Exe.of_ev tok Tryz.call27 Tryz.func27 rfl rfl rfl ?_
  refine box_as H (tmC t) rfl fun b w1 H1 => ?_
  refine load_rule tok H1 (v := tmV t) rfl ?_
  refine call_rule H1 (fun M I h0 h => storyNew id t hin A n c hs ht hh _ M I (h0 rfl) h) fun a w2 ha H2 => ?_
  have hS := sto_ok (loan := id) hin ok ha
  have et : IntKind.i32.wrap (t.start - 1) = t.start - 1 := i32w (by omega) (by omega)
  refine Exists.elim (show ∃ o : Lo, o = ⟨a.1, ⟨id, t, a.2.2⟩, a.2.1, [], ⟨none, 0, 0⟩, t.start - 1, st0, ⟨none, 0, []⟩⟩ from ⟨_, rfl⟩) fun o eo => ?_
  have hok : LoOk o := by
    rw [eo]
    exact ⟨hS, rfl, fun p hp => (by cases hp), by show 0 ≤ 19; decide, ⟨by show t.start - 1 ≤ t.start - 1; omega, by show t.start - 1 ≤ t.start + 10000; omega⟩, hid⟩
  refine load_rule tok H2 (v := .int .i32 t.start) rfl ?_
  refine box_as H2 [.int .u32 id, .pointer (some ⟨a.1, 0, none⟩), .slice none 0 0, .int .i32 (IntKind.i32.wrap (t.start - 1)), .int .i64 0, .int .i64 0, .int .i64 0, .int .u64 0, .int .i64 0, .int .i64 0, .int .i64 0, .int .i64 0, .int .u8 0, .slice none 0 0] rfl fun p w3 H3 => ?_
  rw [et] at H3
  have H4 : Hp ⟨w, M, I⟩ (loA p o) [Sl dueR (.slice o.dv.A o.dv.n o.dv.c) o.S.dues] w3 := by
    rw [eo]
    show Hp ⟨w, M, I⟩ [blk p [.int .u32 id, .pointer (some ⟨a.1, 0, none⟩), .slice none 0 0, .int .i32 (t.start - 1), .int .i64 0, .int .i64 0, .int .i64 0, .int .u64 0, .int .i64 0, .int .i64 0, .int .i64 0, .int .i64 0, .int .u8 0, .slice none 0 0] 141, row 105 5 (.slice none 0 0) 0 [], blk a.1 (stoC ⟨id, t, a.2.2⟩ a.2.1) 120, row 71 5 (.slice none 0 0) 0 []] [Sl dueR (.slice a.2.1.A a.2.1.n a.2.1.c) a.2.2] w3
    exact Hp.keep (Hp.nil (Hp.nil H3 105 5) 71 5)
  refine call_rule H4 (fun M I _ h => ltell p o hok _ M I h) fun b w4 hb H5 => ?_
  refine Exists.intro (p, { o with x := b.1, h := b.2 }) (And.intro rfl (And.intro ⟨?_, ?_, ?_, ?_, ?_, ?_, hb⟩ (Hp.keep H5)))
  · show o.S.loan = id
    rw [eo]
  · show o.S.t = t
    rw [eo]
  · show DuesR t hs t.months.toNat o.S.dues
    rw [eo]
    exact ha
  · show o.ps = []
    rw [eo]
  · show o.thr = t.start - 1
    rw [eo]
  · exact ⟨hok.sto, hok.pn, hok.ev, hok.few, hok.thr, hok.loan⟩
theorem loanRun (p : Nat) (o : Lo) (ok : LoOk o) (day : Int) (hd : day = o.thr + 1) (h1 : day ≤ o.S.t.start + 10000) (h2 : day ≤ 3640000) (w : World) (M I : BS) (H : Hp ⟨w, M, I⟩ (loA p o) [Sl dueR (.slice o.dv.A o.dv.n o.dv.c) o.S.dues] w) :
    Ctr Tryz.prog 28 [.pointer (some ⟨p, 0, none⟩), .int .i32 day] w M I (fun _ : St × Hd => .nilIface) (fun a => told o.S day o.ps a.1 (a.2.es.map kl)) (fun a => loA p { o with thr := day, x := a.1, h := a.2 }) (fun a => [EnF a.2.es]) := by
  have hst := ok.sto.ok.start
  have hthr := ok.thr
  have e1 : IntKind.i64.wrap day = day := i64w (by omega) (by omega)
  have e2 : IntKind.i64.wrap (IntKind.i64.wrap o.thr + 1) = day := by rw [i64w (n := o.thr) (by omega) (by omega), ← hd]; exact i64w (by omega) (by omega)
  have g1 : (!(IntKind.i64.wrap day == IntKind.i64.wrap (IntKind.i64.wrap o.thr + 1))) = false := by rw [e2, e1]; simp
  refine Exe.of_ev tok Tryz.call28 Tryz.func28 rfl rfl rfl ?_
  refine load_rule tok H (v := .int .i32 o.thr) rfl ?_
  refine br (fun q => absurd (g1.symm.trans q) (by decide)) (fun _ => ?_)
  refine brd (fun q => absurd h2 (Int.not_le.2 q)) (fun _ => ?_)
  refine store_as tok H (loC { o with thr := day }) rfl rfl rfl rfl rfl fun w1 H1 => ?_
  have H1 : Hp ⟨w, M, I⟩ (loA p { o with thr := day }) [Sl dueR (.slice o.dv.A o.dv.n o.dv.c) o.S.dues] w1 := Hp.keep H1
  refine call_rule H1 (fun M I _ h => ltell p { o with thr := day } ⟨ok.sto, ok.pn, ok.ev, ok.few, ⟨by show o.S.t.start - 1 ≤ day; omega, by show day ≤ o.S.t.start + 10000; omega⟩, ok.loan⟩ _ M I h) fun a w2 ha H2 => ?_
  exact Exists.intro a (And.intro rfl (And.intro ha (Hp.keep H2)))
theorem loanState (p : Nat) (o : Lo) (w : World) (M I : BS) (H : Hp ⟨w, M, I⟩ [blk p (loC o) 141] [] w) :
    Ctr Tryz.prog 32 [.pointer (some ⟨p, 0, none⟩)] w M I (fun _ : Unit => stV o.x) (fun _ => True) (fun _ => [blk p (loC o) 141]) (fun _ => []) := by
  refine Exe.of_ev tok Tryz.call32 Tryz.func32 rfl rfl rfl ?_
  refine alloc_as tok H (stC st0) rfl rfl rfl fun r w1 H1 => ?_
  refine load_rule tok H1 (v := stV o.x) rfl ?_
  refine store_as tok H1 (stC o.x) rfl rfl rfl rfl rfl fun w2 H2 => ?_
  exact Exists.intro ⟨r, 0, none⟩ (Exists.intro (stV o.x) (And.intro rfl (And.intro (Hp.ld (T := tb) tok H2 rfl) (Exists.intro () (And.intro rfl (And.intro trivial (Hp.keep H2)))))))
theorem storyTerms (sb : Nat) (S : Sto) (dv : SV) (w : World) (M I : BS) (H : Hp ⟨w, M, I⟩ [blk sb (stoC S dv) 120] [] w) :
    Ctr Tryz.prog 112 [.pointer (some ⟨sb, 0, none⟩)] w M I (fun _ : Unit => tmV S.t) (fun _ => True) (fun _ => [blk sb (stoC S dv) 120]) (fun _ => []) := by
  refine Exe.of_ev tok Tryz.call112 Tryz.func112 rfl rfl rfl ?_
  refine alloc_as tok H [.int .u8 0, .int .i64 0, .int .u32 0, .int .u8 0, .int .i64 0, .int .i32 0, .int .i64 0, .int .i64 0] rfl rfl rfl fun r w1 H1 => ?_
  refine load_rule tok H1 (v := tmV S.t) rfl ?_
  refine store_as tok H1 (tmC S.t) rfl rfl rfl rfl rfl fun w2 H2 => ?_
  exact Exists.intro ⟨r, 0, none⟩ (Exists.intro (tmV S.t) (And.intro rfl (And.intro (Hp.ld (T := tb) tok H2 rfl) (Exists.intro () (And.intro rfl (And.intro trivial (Hp.keep H2)))))))
theorem loanFind (p : Nat) (o : Lo) (hpn : o.pv.n = o.ps.length) (q : Int) (w : World) (M I : BS) (H : Hp ⟨w, M, I⟩ [blk p (loC o) 141, row 105 5 (.slice o.pv.A o.pv.n o.pv.c) o.pv.n (pasC o.ps)] [] w) :
    Ctr Tryz.prog 58 [.pointer (some ⟨p, 0, none⟩), .int .u32 q] w M I (fun _ : Unit => .int .i64 (findI q o.ps 0)) (fun _ => True) (fun _ => [blk p (loC o) 141, row 105 5 (.slice o.pv.A o.pv.n o.pv.c) o.pv.n (pasC o.ps)]) (fun _ => []) := by
  refine Exe.of_ev tok Tryz.call58 Tryz.func58 rfl rfl rfl ?_
  refine box_as H [.int .u32 q] rfl fun b w1 H1 => ?_
  refine load_rule tok H1 (v := .slice o.pv.A o.pv.n o.pv.c) rfl ?_
  refine call_rule H1 (fun M I _ h => idxP o.pv.A o.pv.n o.pv.c o.ps hpn b q _ _ (by exact map0 _) (by exact map1 _ _) _ M I h) fun _ w2 _ H2 => ?_
  exact Exists.intro () (And.intro rfl (And.intro trivial (Hp.keep H2)))
set_option maxRecDepth 20000 in
theorem loanFault (p : Nat) (o : Lo) (hl : inK .u32 o.S.loan) (cd : Int) (w : World) (M I : BS) (H : Hp ⟨w, M, I⟩ [blk p (loC o) 141] [] w) :
    Ctr Tryz.prog 56 [.pointer (some ⟨p, 0, none⟩), .iface 100 (.int .i64 cd)] w M I (fun f : Nat => errFV (.fault f o.S.loan cd)) (fun _ => True) (fun f => [errFA (.fault f o.S.loan cd), blk p (loC o) 141]) (fun _ => []) := by
  have hl0 : 0 ≤ o.S.loan ∧ o.S.loan ≤ 4294967295 := hl
  have e1 : IntKind.u64.wrap o.S.loan = o.S.loan := by
    simp [IntKind.wrap, IntKind.signed, IntKind.bits]
    omega
  refine Exe.of_ev tok Tryz.call56 Tryz.func56 rfl rfl rfl ?_
  refine load_rule tok H (v := .int .u32 o.S.loan) rfl ?_
  refine box_as H [.int .u64 (IntKind.u64.wrap o.S.loan), .iface 100 (.int .i64 cd)] rfl fun f w1 H1 => ?_
  rw [e1] at H1
  refine Exists.intro f (And.intro rfl (And.intro trivial ?_))
  show Hp ⟨w, M, I⟩ [blk f [.int .u64 o.S.loan, .iface 100 (.int .i64 cd)] 118, blk p (loC o) 141] [] w1
  exact Hp.keep H1
/-- May something happen on a day, today? -/
def opnB (o : Lo) (d today : Int) : Bool := decide (o.S.t.start ≤ d) && (decide (d ≤ today) && (decide (d ≤ o.thr + 1) && decide (today - d < 30)))
theorem loanOpen (p : Nat) (o : Lo) (ok : LoOk o) (d today : Int) (hd : -2147483648 ≤ d ∧ d ≤ 2147483647) (ht : -2147483648 ≤ today ∧ today ≤ 2147483647) (w : World) (M I : BS) (H : Hp ⟨w, M, I⟩ [blk p (loC o) 141, blk o.sb (stoC o.S o.dv) 120] [] w) :
    Ctr Tryz.prog 59 [.pointer (some ⟨p, 0, none⟩), .int .i32 d, .int .i32 today] w M I (fun _ : Unit => .bool (opnB o d today)) (fun _ => True) (fun _ => [blk p (loC o) 141, blk o.sb (stoC o.S o.dv) 120]) (fun _ => []) := by
  have hst := ok.sto.ok.start
  have hthr := ok.thr
  have e1 : IntKind.i32.wrap (o.thr + 1) = o.thr + 1 := i32w (by omega) (by omega)
  have e2 : IntKind.i64.wrap (IntKind.i64.wrap today - IntKind.i64.wrap d) = today - d := by rw [i64w (n := today) (by omega) (by omega), i64w (n := d) (by omega) (by omega)]; exact i64w (by omega) (by omega)
  refine Exe.of_ev tok Tryz.call59 Tryz.func59 rfl rfl rfl ?_
  refine load_rule tok H (v := .pointer (some ⟨o.sb, 0, none⟩)) rfl ?_
  refine call_rule H (fun M I _ h => storyTerms o.sb o.S o.dv _ M I h) fun _ w1 _ H1 => ?_
  refine brd (fun q1 => ?_) (fun q1 => ?_)
  · refine brd (fun q2 => ?_) (fun q2 => ?_)
    · refine load_rule tok H1 (v := .int .i32 o.thr) rfl ?_
      refine brd (fun q3 => ?_) (fun q3 => ?_)
      · refine Exists.intro () (And.intro (congrArg Value.bool ?_) (And.intro trivial (Hp.keep H1)))
        have q1 : o.S.t.start ≤ d := q1
        rw [e1] at q3
        show decide (IntKind.i64.wrap (IntKind.i64.wrap today - IntKind.i64.wrap d) < 30) = _
        unfold opnB
        rw [e2, decide_eq_true q1, decide_eq_true q2, decide_eq_true q3]
        rfl
      · refine Exists.intro () (And.intro (congrArg Value.bool ?_) (And.intro trivial (Hp.keep H1)))
        have q1 : o.S.t.start ≤ d := q1
        rw [e1] at q3
        unfold opnB
        rw [decide_eq_true q1, decide_eq_true q2, decide_eq_false q3]
        rfl
    · refine Exists.intro () (And.intro (congrArg Value.bool ?_) (And.intro trivial (Hp.keep H1)))
      have q1 : o.S.t.start ≤ d := q1
      unfold opnB
      rw [decide_eq_true q1, decide_eq_false q2]
      rfl
  · refine Exists.intro () (And.intro (congrArg Value.bool ?_) (And.intro trivial (Hp.keep H1)))
    have q1 : ¬ o.S.t.start ≤ d := q1
    unfold opnB
    rw [decide_eq_false q1]
    rfl
end Go.Proofs.YtjlfjjgjghdokaaGreatDoor
set_option linter.unusedVariables false
namespace Go.Proofs.YtjlfjjgjghdokaaGreatDoor
open Go Go.Proofs Go.Wk
/-- What taking an event answers. -/
def takeE (o : Lo) (e : Ev) (today : Int) : Option Int :=
  if evRB e = false then some 1
  else if 0 ≤ findI e.seq o.ps 0 then some 10
  else if opnB o e.day today = false then some 11
  else if o.x.status = 2 then some 9
  else if o.x.status = 3 ∧ e.kind ≠ 4 then some 14
  else none
structure TkR where
  e : ErrF
  o : Lo
def tkOk (o : Lo) (e : Ev) (today : Int) (r : TkR) : Prop := match takeE o e today with
  | some c => (∃ f, r.e = .fault f o.S.loan c) ∧ r.o = o
  | none => r.e = .none ∧ r.o.S = o.S ∧ r.o.sb = o.sb ∧ r.o.dv = o.dv ∧ r.o.thr = o.thr ∧ r.o.ps = o.ps ++ [(⟨e, false⟩ : Pa)] ∧ LoOk r.o ∧ told o.S o.thr (o.ps ++ [(⟨e, false⟩ : Pa)]) r.o.x (r.o.h.es.map kl)
theorem pasC_snoc (l : List Pa) (x : Pa) : pasC l ++ paC x = pasC (l ++ [x]) := (flatL_snoc (f := paC) l x).symm
theorem evRB_amt {e : Ev} (h : ¬ evRB e = false) : EvA e := by
  have h : evRB e = true := by simpa using h
  unfold evRB at h
  split at h
  · simp only [Bool.and_eq_true, decide_eq_true_eq, coinB] at h
    exact ⟨by omega, by omega⟩
  · split at h
    · simp only [Bool.and_eq_true, beq_iff_eq] at h
      exact ⟨by omega, by omega⟩
    · cases h
theorem takenOk {o : Lo} (ok : LoOk o) (h18 : o.ps.length ≤ 18) {e : Ev} (n1 : ¬ evRB e = false) (A2 : Option Addr) (c2 : Nat) : LoOk { o with ps := o.ps ++ [(⟨e, false⟩ : Pa)], pv := ⟨A2, o.pv.n + 1, c2⟩ } := by
  refine ⟨ok.sto, ?_, ?_, ?_, ok.thr, ok.loan⟩
  · show o.pv.n + 1 = (o.ps ++ [(⟨e, false⟩ : Pa)]).length
    rw [List.length_append, ok.pn]
    rfl
  · intro q hq
    rcases List.mem_append.1 hq with hq | hq
    · exact ok.ev q hq
    · rw [List.mem_singleton] at hq
      rw [hq]
      exact evRB_amt n1
  · show (o.ps ++ [(⟨e, false⟩ : Pa)]).length ≤ 19
    rw [List.length_append]
    show o.ps.length + 1 ≤ 19
    omega
set_option maxHeartbeats 2000000 in
set_option maxRecDepth 20000 in
theorem loanTake (p : Nat) (o : Lo) (ok : LoOk o) (h18 : o.ps.length ≤ 18) (e : Ev) (hday : -2147483648 ≤ e.day ∧ e.day ≤ 2147483647) (today : Int) (ht : -2147483648 ≤ today ∧ today ≤ 2147483647) (w : World) (M I : BS) (H : Hp ⟨w, M, I⟩ (loA p o) (loF o) w) :
    Ctr Tryz.prog 30 [.pointer (some ⟨p, 0, none⟩), evV e, .int .i32 today] w M I (fun r : TkR => errFV r.e) (tkOk o e today) (fun r => errFA r.e :: loA p r.o) (fun r => loF r.o) := by
  have hpn := ok.pn
  have hln := ok.loan
  refine Exe.of_ev tok Tryz.call30 Tryz.func30 rfl rfl rfl ?_
  refine box_as H (evC e) rfl fun eb w1 H1 => ?_
  have fail : ∀ (c : Int) (f : Nat) (w' : World), takeE o e today = some c → Hp ⟨w, M, I⟩ (errFA (.fault f o.S.loan c) :: loA p o) (loF o) w' → ∃ r : TkR, errFV (.fault f o.S.loan c) = errFV r.e ∧ tkOk o e today r ∧ Hp ⟨w, M, I⟩ (errFA r.e :: loA p r.o) (loF r.o) w' := fun c f w' hc h => by
    refine ⟨⟨.fault f o.S.loan c, o⟩, rfl, ?_, h⟩
    unfold tkOk
    rw [hc]
    exact ⟨⟨f, rfl⟩, rfl⟩
  refine load_rule tok H1 (v := evV e) rfl ?_
  refine call_rule H1 (fun M I _ h => evRight e _ M I h) fun _ w2 _ H2 => ?_
  refine br (fun q1 => ?_) (fun q1 => ?_)
  · have q1 : evRB e = false := by
      have q1 : (!evRB e) = true := q1
      simpa using q1
    refine call_rule H2 (fun M I _ h => loanFault p o hln 1 _ M I h) fun f w3 _ H3 => ?_
    exact fail 1 f w3 (by unfold takeE; rw [if_pos q1]) (Hp.keep H3)
  have n1 : ¬ evRB e = false := by
    have q1 : (!evRB e) = false := q1
    simpa using q1
  refine load_rule tok H2 (v := .int .u32 e.seq) rfl ?_
  refine call_rule H2 (fun M I _ h => loanFind p o hpn e.seq _ M I h) fun _ w3 _ H3 => ?_
  refine brd (fun q2 => ?_) (fun q2 => ?_)
  · refine call_rule H3 (fun M I _ h => loanFault p o hln 10 _ M I h) fun f w4 _ H4 => ?_
    exact fail 10 f w4 (by unfold takeE; rw [if_neg n1, if_pos q2]) (Hp.keep H4)
  refine load_rule tok H3 (v := .slice o.pv.A o.pv.n o.pv.c) rfl ?_
  refine brd (fun q => absurd q (by show ¬ (500 : Int) ≤ (o.pv.n : Int); omega)) (fun _ => ?_)
  refine load_rule tok H3 (v := .int .i32 e.day) rfl ?_
  refine call_rule H3 (fun M I _ h => loanOpen p o ok e.day today hday ht _ M I h) fun _ w4 _ H4 => ?_
  refine br (fun q3 => ?_) (fun q3 => ?_)
  · have q3 : opnB o e.day today = false := by
      have q3 : (!opnB o e.day today) = true := q3
      simpa using q3
    refine call_rule H4 (fun M I _ h => loanFault p o hln 11 _ M I h) fun f w5 _ H5 => ?_
    exact fail 11 f w5 (by unfold takeE; rw [if_neg n1, if_neg q2, if_pos q3]) (Hp.keep H5)
  have n3 : ¬ opnB o e.day today = false := by
    have q3 : (!opnB o e.day today) = false := q3
    simpa using q3
  refine load_rule tok H4 (v := .int .u8 o.x.status) rfl ?_
  refine br (fun q4 => ?_) (fun q4 => ?_)
  · have q4 : o.x.status = 2 := eq_of_beq q4
    refine call_rule H4 (fun M I _ h => loanFault p o hln 9 _ M I h) fun f w5 _ H5 => ?_
    exact fail 9 f w5 (by unfold takeE; rw [if_neg n1, if_neg q2, if_neg n3, if_pos q4]) (Hp.keep H5)
  have n4 : ¬ o.x.status = 2 := ne_of_beq_false q4
  refine load_rule tok H4 (v := .int .u8 o.x.status) rfl ?_
  refine br (fun q5 => ?_) (fun q5 => ?_)
  · have q5 : o.x.status = 3 := eq_of_beq q5
    refine load_rule tok H4 (v := .int .u8 e.kind) rfl ?_
    refine br (fun q6 => ?_) (fun q6 => ?_)
    · have q6 : e.kind ≠ 4 := by
        have q6 : (!(e.kind == 4)) = true := q6
        simpa using q6
      refine call_rule H4 (fun M I _ h => loanFault p o hln 14 _ M I h) fun f w5 _ H5 => ?_
      exact fail 14 f w5 (by unfold takeE; rw [if_neg n1, if_neg q2, if_neg n3, if_neg n4, if_pos ⟨q5, q6⟩]) (Hp.keep H5)
    · have q6 : e.kind = 4 := by
        have q6 : (!(e.kind == 4)) = false := q6
        simpa using q6
      have hn : takeE o e today = none := by unfold takeE; rw [if_neg n1, if_neg q2, if_neg n3, if_neg n4, if_neg (fun hh => hh.2 q6)]
      have H4 : Hp ⟨w, M, I⟩ [blk p (loC o) 141, row 105 5 (.slice o.pv.A o.pv.n o.pv.c) o.pv.n (pasC o.ps), blk o.sb (stoC o.S o.dv) 120, row 71 5 (.slice o.h.A o.h.es.length o.h.c) o.h.es.length (ensC o.h.es), blk eb (evC e) 65] (loF o) w4 := Hp.keep H4
      refine draw_rule (A := [blk p (loC o) 141, row 105 5 (.slice o.pv.A o.pv.n o.pv.c) o.pv.n (pasC o.ps)]) tok tdr H4 [1, 2, 3, 4, 5, 6, 7, 8, 0, 9, 10, 11] [0, 0, 2, 6, 14, 0, 32, 96, 254, 511, 1023, 2047] rfl ?_
      refine pass_last _ rfl (fun X w h => load_rule tok h (v := .slice o.pv.A o.pv.n o.pv.c) rfl ⟨rfl, rfl⟩) ?_
      refine pass_rule _ (fun w h => load_rule tok h (v := evV e) rfl ⟨rfl, rfl⟩) ?_
      refine fresh_slice tok (paC ⟨e, false⟩) rfl rfl rfl rfl rfl rfl rfl fun g => ?_
      refine imp_rule (fun X wx h => append_rule (v := .slice o.pv.A o.pv.n o.pv.c) (b := g) (m := 1) (c := 1) tok h rfl rfl rfl rfl rfl rfl rfl rfl (by show (o.pv.n + 1) * 32 ≤ _; omega) (by omega) fun A2 c2 w5 H5 => imp_done H5 ?_)
      refine imp_rule (fun X wx h => store_as tok h (loC { o with pv := ⟨A2, o.pv.n + 1, c2⟩ }) rfl rfl rfl rfl rfl fun w5 H5 => imp_done H5 ?_)
      refine done_rule fun w6 H6 => ?_
      have H6 : Hp ⟨w, M, I⟩ (loA p { o with ps := o.ps ++ [(⟨e, false⟩ : Pa)], pv := ⟨A2, o.pv.n + 1, c2⟩ }) (loF o) w6 := by
        show Hp ⟨w, M, I⟩ [blk p (loC { o with pv := ⟨A2, o.pv.n + 1, c2⟩ }) 141, row 105 5 (.slice A2 (o.pv.n + 1) c2) (o.pv.n + 1) (pasC (o.ps ++ [(⟨e, false⟩ : Pa)])), blk o.sb (stoC o.S o.dv) 120, row 71 5 (.slice o.h.A o.h.es.length o.h.c) o.h.es.length (ensC o.h.es)] (loF o) w6
        rw [← pasC_snoc]
        exact Hp.keep H6
      have ok2 := takenOk ok h18 (n1 := n1) A2 c2
      refine call_rule H6 (fun M I _ h => ltell p { o with ps := o.ps ++ [(⟨e, false⟩ : Pa)], pv := ⟨A2, o.pv.n + 1, c2⟩ } ok2 _ M I h) fun a w7 ha H7 => ?_
      refine Exists.intro ⟨.none, { o with ps := o.ps ++ [(⟨e, false⟩ : Pa)], pv := ⟨A2, o.pv.n + 1, c2⟩, x := a.1, h := a.2 }⟩ (And.intro rfl (And.intro ?_ ?_))
      · unfold tkOk
        rw [hn]
        exact ⟨rfl, rfl, rfl, rfl, rfl, rfl, ⟨ok2.sto, ok2.pn, ok2.ev, ok2.few, ok2.thr, ok2.loan⟩, ha⟩
      · show Hp ⟨w, M, I⟩ (empA :: loA p { o with ps := o.ps ++ [(⟨e, false⟩ : Pa)], pv := ⟨A2, o.pv.n + 1, c2⟩, x := a.1, h := a.2 }) (loF { o with ps := o.ps ++ [(⟨e, false⟩ : Pa)], pv := ⟨A2, o.pv.n + 1, c2⟩, x := a.1, h := a.2 }) w7
        exact Hp.keep (Hp.addEmp H7)
  · have q5 : o.x.status ≠ 3 := ne_of_beq_false q5
    have hn : takeE o e today = none := by unfold takeE; rw [if_neg n1, if_neg q2, if_neg n3, if_neg n4, if_neg (fun hh => q5 hh.1)]
    have H4 : Hp ⟨w, M, I⟩ [blk p (loC o) 141, row 105 5 (.slice o.pv.A o.pv.n o.pv.c) o.pv.n (pasC o.ps), blk o.sb (stoC o.S o.dv) 120, row 71 5 (.slice o.h.A o.h.es.length o.h.c) o.h.es.length (ensC o.h.es), blk eb (evC e) 65] (loF o) w4 := Hp.keep H4
    refine draw_rule (A := [blk p (loC o) 141, row 105 5 (.slice o.pv.A o.pv.n o.pv.c) o.pv.n (pasC o.ps)]) tok tdr H4 [1, 2, 3, 4, 5, 6, 7, 8, 0, 9, 10, 11] [0, 0, 2, 6, 14, 0, 32, 96, 254, 511, 1023, 2047] rfl ?_
    refine pass_last _ rfl (fun X w h => load_rule tok h (v := .slice o.pv.A o.pv.n o.pv.c) rfl ⟨rfl, rfl⟩) ?_
    refine pass_rule _ (fun w h => load_rule tok h (v := evV e) rfl ⟨rfl, rfl⟩) ?_
    refine fresh_slice tok (paC ⟨e, false⟩) rfl rfl rfl rfl rfl rfl rfl fun g => ?_
    refine imp_rule (fun X wx h => append_rule (v := .slice o.pv.A o.pv.n o.pv.c) (b := g) (m := 1) (c := 1) tok h rfl rfl rfl rfl rfl rfl rfl rfl (by show (o.pv.n + 1) * 32 ≤ _; omega) (by omega) fun A2 c2 w5 H5 => imp_done H5 ?_)
    refine imp_rule (fun X wx h => store_as tok h (loC { o with pv := ⟨A2, o.pv.n + 1, c2⟩ }) rfl rfl rfl rfl rfl fun w5 H5 => imp_done H5 ?_)
    refine done_rule fun w6 H6 => ?_
    have H6 : Hp ⟨w, M, I⟩ (loA p { o with ps := o.ps ++ [(⟨e, false⟩ : Pa)], pv := ⟨A2, o.pv.n + 1, c2⟩ }) (loF o) w6 := by
      show Hp ⟨w, M, I⟩ [blk p (loC { o with pv := ⟨A2, o.pv.n + 1, c2⟩ }) 141, row 105 5 (.slice A2 (o.pv.n + 1) c2) (o.pv.n + 1) (pasC (o.ps ++ [(⟨e, false⟩ : Pa)])), blk o.sb (stoC o.S o.dv) 120, row 71 5 (.slice o.h.A o.h.es.length o.h.c) o.h.es.length (ensC o.h.es)] (loF o) w6
      rw [← pasC_snoc]
      exact Hp.keep H6
    have ok2 := takenOk ok h18 (n1 := n1) A2 c2
    refine call_rule H6 (fun M I _ h => ltell p { o with ps := o.ps ++ [(⟨e, false⟩ : Pa)], pv := ⟨A2, o.pv.n + 1, c2⟩ } ok2 _ M I h) fun a w7 ha H7 => ?_
    refine Exists.intro ⟨.none, { o with ps := o.ps ++ [(⟨e, false⟩ : Pa)], pv := ⟨A2, o.pv.n + 1, c2⟩, x := a.1, h := a.2 }⟩ (And.intro rfl (And.intro ?_ ?_))
    · unfold tkOk
      rw [hn]
      exact ⟨rfl, rfl, rfl, rfl, rfl, rfl, ⟨ok2.sto, ok2.pn, ok2.ev, ok2.few, ok2.thr, ok2.loan⟩, ha⟩
    · show Hp ⟨w, M, I⟩ (empA :: loA p { o with ps := o.ps ++ [(⟨e, false⟩ : Pa)], pv := ⟨A2, o.pv.n + 1, c2⟩, x := a.1, h := a.2 }) (loF { o with ps := o.ps ++ [(⟨e, false⟩ : Pa)], pv := ⟨A2, o.pv.n + 1, c2⟩, x := a.1, h := a.2 }) w7
      exact Hp.keep (Hp.addEmp H7)
end Go.Proofs.YtjlfjjgjghdokaaGreatDoor
set_option linter.unusedVariables false
namespace Go.Proofs.YtjlfjjgjghdokaaGreatDoor
open Go Go.Proofs Go.Wk
/-- The first of the dues that isn't paid; below 0: there is none. -/
def oldI (paid : Int) : List (Int × Int) → Nat → Int
  | [], _ => -1
  | d :: r, i => if paid < d.2 then (i : Int) else oldI paid r (i + 1)
def sinceF (paid today : Int) : List (Int × Int) → Int
  | [] => 0
  | d :: r => if paid < d.2 then (if today - d.1 < 0 then 0 else today - d.1) else sinceF paid today r
theorem oldI_at {paid today : Int} : ∀ (l : List (Int × Int)) (i : Nat), (oldI paid l i = -1 ∧ sinceF paid today l = 0) ∨ ∃ j d, oldI paid l i = ((i + j : Nat) : Int) ∧ l[j]? = some d ∧ sinceF paid today l = (if today - d.1 < 0 then 0 else today - d.1)
  | [], i => .inl ⟨rfl, rfl⟩
  | d :: r, i => by
    unfold oldI sinceF
    split
    · exact .inr ⟨0, d, rfl, rfl, rfl⟩
    · rcases oldI_at (paid := paid) (today := today) r (i + 1) with h | ⟨j, e, h1, h2, h3⟩
      · exact .inl h
      · exact .inr ⟨j + 1, e, by rw [h1]; congr 1; omega, h2, h3⟩
theorem old1 (b : Nat) (q : Int) (x : Int × Int) (w : World) (M I : BS) (H : Hp ⟨w, M, I⟩ [blk b [.int .i64 q] 22] [] w) :
    Ctr Tryz.prog 181 [.agg #[.int .i32 x.1, .int .i64 x.2], .pointer (some ⟨b, 0, none⟩)] w M I (fun _ : Unit => .bool (decide (q < x.2))) (fun _ => True) (fun _ => [blk b [.int .i64 q] 22]) (fun _ => []) := by
  refine Exe.of_ev tok Tryz.call181 Tryz.func181 rfl rfl rfl ?_
  refine box_as H (dueC x) rfl fun r w1 H1 => ?_
  refine load_rule tok H1 (v := .int .i64 x.2) rfl ?_
  refine load_rule tok H1 (v := .int .i64 q) rfl ?_
  exact Exists.intro () (And.intro rfl (And.intro trivial (Hp.keep H1)))
theorem idxDue (A : Option Addr) (n c : Nat) (ds : List (Int × Int)) (b : Nat) (q : Int) (fs cap : Array Value) (hfs : fs = #[]) (hcap : cap = #[.pointer (some ⟨b, 0, none⟩)]) (w : World) (M I : BS) (H : Hp ⟨w, M, I⟩ [blk b [.int .i64 q] 22] [Sl dueR (.slice A n c) ds] w) :
    Ctr Tryz.prog 180 [.slice A n c, .func (.func 181) fs cap] w M I (fun _ : Unit => .int .i64 (oldI q ds 0)) (fun _ => True) (fun _ => [blk b [.int .i64 q] 22]) (fun _ => []) := by
  subst hcap hfs
  have hn := H.sll (A := A) (n := n) (c := c) (r := dueR) (xs := ds)
  refine Exe.of_ev tok Tryz.call180 Tryz.func180 rfl rfl rfl ?_
  refine loop_rule tok (σ := Nat) 524080 (fun i => [(8, .int .i64 (i : Int))]) (fun i w' => i ≤ n ∧ oldI q ds 0 = oldI q (ds.drop i) i ∧ Hp ⟨w, M, I⟩ [blk b [.int .i64 q] 22] [Sl dueR (.slice A n c) ds] w') (fun i => n - i) 0 rfl rfl ⟨rfl, trivial⟩ ⟨Nat.zero_le _, rfl, H⟩ ?_
  intro i j w1 hW
  have hi := hW.1
  have hg := hW.2.1
  have H1 := hW.2.2
  refine brd (fun q2 => ?_) (fun q2 => ?_)
  · have hil : i < n := Int.ofNat_lt.1 q2
    have ew : IntKind.i64.wrap ((i : Int) + 1) = ((i + 1 : Nat) : Int) := w64 (by omega) (by omega)
    refine idx_rule tok H1 rfl rfl rfl (Int.natCast_nonneg i) q2 fun eb eo u hu H2 => ?_
    have hu : ds[i]? = some u := hu
    have hd : ds.drop i = u :: ds.drop (i + 1) := by
      rw [List.drop_eq_getElem_cons (by omega)]
      rw [List.getElem?_eq_getElem (by omega)] at hu
      rw [Option.some.inj hu]
    refine ldp_rule tok H2 rfl rfl rfl fun _ _ H3 => ?_
    refine clo_rule H3 [.pointer (some ⟨b, 0, none⟩)] (fun M I _ h => old1 b q u _ M I h) fun _ w2 _ H4 => ?_
    refine brd (fun q3 => ?_) (fun q3 => ?_)
    · refine Exists.intro () (And.intro (congrArg (Value.int .i64) ?_) (And.intro trivial (Hp.keep H4)))
      rw [hg, hd, oldI, if_pos q3]
    · refine Exists.intro (i + 1) (And.intro ⟨congrArg (Value.int .i64) ew, trivial⟩ (And.intro ?_ ⟨?_, ?_, Hp.keep H4⟩))
      · show n - (i + 1) < n - i
        omega
      · omega
      · rw [hg, hd, oldI, if_neg q3]
  · refine Exists.intro () (And.intro (congrArg (Value.int .i64) ?_) (And.intro trivial (Hp.keep H1)))
    have q2 : ¬ (i : Int) < (n : Int) := q2
    rw [hg, List.drop_eq_nil_of_le (by omega)]
    rfl
theorem oldest (A : Option Addr) (n c : Nat) (ds : List (Int × Int)) (paid : Int) (w : World) (M I : BS) (H : Hp ⟨w, M, I⟩ [] [Sl dueR (.slice A n c) ds] w) :
    Ctr Tryz.prog 128 [.slice A n c, .int .i64 paid] w M I (fun _ : Unit => .tuple #[.int .i64 (if oldI paid ds 0 < 0 then 0 else oldI paid ds 0), .bool (decide (0 ≤ oldI paid ds 0))]) (fun _ => True) (fun _ => []) (fun _ => []) := by
  refine Exe.of_ev tok Tryz.call128 Tryz.func128 rfl rfl rfl ?_
  refine box_as H [.int .i64 paid] rfl fun b w1 H1 => ?_
  refine call_rule H1 (fun M I _ h => idxDue A n c ds b paid _ _ (by exact map0 _) (by exact map1 _ _) _ M I h) fun _ w2 _ H2 => ?_
  exact Exists.intro () (And.intro rfl (And.intro trivial (Hp.keep H2)))
theorem oldestNo (A : Option Addr) (n c : Nat) (ds : List (Int × Int)) (paid : Int) (h : oldI paid ds 0 = -1) (w : World) (M I : BS) (H : Hp ⟨w, M, I⟩ [] [Sl dueR (.slice A n c) ds] w) :
    Ctr Tryz.prog 128 [.slice A n c, .int .i64 paid] w M I (fun _ : Unit => .tuple #[.int .i64 0, .bool false]) (fun _ => True) (fun _ => []) (fun _ => []) := by
  have h1 := oldest A n c ds paid w M I H
  rw [h] at h1
  exact h1
theorem oldestAt (A : Option Addr) (n c : Nat) (ds : List (Int × Int)) (paid : Int) (j : Nat) (h : oldI paid ds 0 = (j : Int)) (w : World) (M I : BS) (H : Hp ⟨w, M, I⟩ [] [Sl dueR (.slice A n c) ds] w) :
    Ctr Tryz.prog 128 [.slice A n c, .int .i64 paid] w M I (fun _ : Unit => .tuple #[.int .i64 (j : Int), .bool true]) (fun _ => True) (fun _ => []) (fun _ => []) := by
  have h1 := oldest A n c ds paid w M I H
  rw [h, if_neg (by omega), decide_eq_true (by omega)] at h1
  exact h1
theorem since (A : Option Addr) (n c : Nat) (ds : List (Int × Int)) (hds : ∀ d, d ∈ ds → 0 ≤ d.1 ∧ d.1 ≤ 3652058) (paid today : Int) (ht : -2147483648 ≤ today ∧ today ≤ 2147483647) (w : World) (M I : BS) (H : Hp ⟨w, M, I⟩ [] [Sl dueR (.slice A n c) ds] w) :
    Ctr Tryz.prog 73 [.slice A n c, .int .i64 paid, .int .i32 today] w M I (fun _ : Unit => .int .i64 (sinceF paid today ds)) (fun _ => True) (fun _ => []) (fun _ => []) := by
  have hn := H.sll (A := A) (n := n) (c := c) (r := dueR) (xs := ds)
  rcases oldI_at (paid := paid) (today := today) ds 0 with ⟨h1, h2⟩ | ⟨j, d, h1, h2, h3⟩
  · refine Exe.of_ev tok Tryz.call73 Tryz.func73 rfl rfl rfl ?_
    refine call_rule H (fun M I _ h => oldestNo A n c ds paid h1 _ M I h) fun _ w1 _ H1 => ?_
    exact Exists.intro () (And.intro (congrArg (Value.int .i64) h2.symm) (And.intro trivial (Hp.keep H1)))
  · have hj : j < ds.length := (List.getElem?_eq_some_iff.1 h2).1
    have hdd := hds d (List.mem_of_getElem? h2)
    rw [Nat.zero_add] at h1
    have e3 : IntKind.i64.wrap (IntKind.i64.wrap today - IntKind.i64.wrap d.1) = today - d.1 := by rw [i64w (n := today) (by omega) (by omega), i64w (n := d.1) (by omega) (by omega)]; exact i64w (by omega) (by omega)
    refine Exe.of_ev tok Tryz.call73 Tryz.func73 rfl rfl rfl ?_
    refine call_rule H (fun M I _ h => oldestAt A n c ds paid j h1 _ M I h) fun _ w1 _ H1 => ?_
    have hA := H1.slAt (A := A) (n := n) (c := c) (r := dueR) (xs := ds) (by omega)
    refine Exists.elim hA fun ab hA => Exists.elim hA fun ao hA => ?_
    have hjn : (j : Int) < (n : Int) := by omega
    refine idx_ownA tok hA rfl rfl (Int.natCast_nonneg j) hjn ?_
    refine sl_ldA (A := A) (n := n) (c := c) (j := j) (f := 0) (r := dueR) (xs := ds) (x := d) tok H1 hA (.int .i32 d.1) h2 rfl (fun _ _ => rfl) ?_
    refine Exists.intro () (And.intro (congrArg (Value.int .i64) ?_) (And.intro trivial (Hp.keep H1)))
    rw [h3, ← e3]
theorem loanLate (p : Nat) (o : Lo) (ok : LoOk o) (today : Int) (ht : -2147483648 ≤ today ∧ today ≤ 2147483647) (w : World) (M I : BS) (H : Hp ⟨w, M, I⟩ [blk p (loC o) 141, blk o.sb (stoC o.S o.dv) 120] [Sl dueR (.slice o.dv.A o.dv.n o.dv.c) o.S.dues] w) :
    Ctr Tryz.prog 35 [.pointer (some ⟨p, 0, none⟩), .int .i32 today] w M I (fun _ : Unit => .int .i64 (if o.x.status = 1 then sinceF o.x.paid today o.S.dues else 0)) (fun _ => True) (fun _ => [blk p (loC o) 141, blk o.sb (stoC o.S o.dv) 120]) (fun _ => []) := by
  refine Exe.of_ev tok Tryz.call35 Tryz.func35 rfl rfl rfl ?_
  refine load_rule tok H (v := .int .u8 o.x.status) rfl ?_
  refine br (fun q1 => ?_) (fun q1 => ?_)
  · have q1 : o.x.status ≠ 1 := by
      have q1 : (!(o.x.status == 1)) = true := q1
      simpa using q1
    refine Exists.intro () (And.intro (congrArg (Value.int .i64) ?_) (And.intro trivial (Hp.keep H)))
    rw [if_neg q1]
  · have q1 : o.x.status = 1 := by
      have q1 : (!(o.x.status == 1)) = false := q1
      simpa using q1
    refine draw_rule (A := [blk o.sb (stoC o.S o.dv) 120]) tok tdr H [0, 1, 2, 3, 4, 5, 6, 7, 8, 9, 10, 11, 12] [0, 1, 3, 7, 15, 0, 32, 96, 224, 480, 0, 2047, 4095] rfl ?_
    refine pass_rule _ (fun w h => load_rule tok h (v := .pointer (some ⟨o.sb, 0, none⟩)) rfl ⟨rfl, rfl⟩) ?_
    refine imp_rule (fun X wx hw => call_rule hw (fun M I _ h => storyDues o.sb o.S ok.sto o.dv _ M I h) fun a w1 _ H1 => imp_done H1 ?_)
    refine pass_rule _ (fun w h => load_rule tok h (v := .int .i64 o.x.paid) rfl ⟨rfl, rfl⟩) ?_
    refine imp_rule (fun X wx hw => call_rule hw (fun M I _ h => since a.A a.n a.c o.S.dues ok.sto.days o.x.paid today ht _ M I h) fun _ w1 _ H1 => imp_done H1 ?_)
    refine done_rule fun w2 H2 => ?_
    refine Exists.intro () (And.intro (congrArg (Value.int .i64) ?_) (And.intro trivial (Hp.keep H2)))
    rw [if_pos q1]
end Go.Proofs.YtjlfjjgjghdokaaGreatDoor
set_option linter.unusedVariables false
namespace Go.Proofs.YtjlfjjgjghdokaaGreatDoor
open Go Go.Proofs Go.Wk
theorem ensC_one : ∀ (xs : List En), ∀ u ∈ ensC xs, u.oneCell' = true
  | [], u, h => by cases h
  | x :: r, u, h => by
    have h : u ∈ enC x ++ ensC r := h
    rcases List.mem_append.1 h with h | h
    · simp only [enC, List.mem_cons, List.not_mem_nil, or_false] at h
      rcases h with rfl | rfl | rfl | rfl | rfl <;> rfl
    · exact ensC_one r u h
theorem cloneEnt (h : Hd) (hn : h.es.length ≤ 100000) (w : World) (M I : BS) (H : Hp ⟨w, M, I⟩ [row 71 5 (.slice h.A h.es.length h.c) h.es.length (ensC h.es)] [] w) :
    Ctr Tryz.prog 115 [.slice h.A h.es.length h.c] w M I (fun a : SV => .slice a.A a.n a.c) (fun a => a.n = h.es.length) (fun a => [row 71 5 (.slice a.A a.n a.c) a.n (ensC h.es), row 71 5 (.slice h.A h.es.length h.c) h.es.length (ensC h.es)]) (fun _ => []) := by
  obtain ⟨A, c, es⟩ := h
  simp only at hn H ⊢
  obtain ⟨fa, ha⟩ := Hp.own (A := row 71 5 (.slice A es.length c) es.length (ensC es)) H
  rcases ha.1.2 with ⟨h1, h2⟩ | ⟨g, cap, cur, h1, _⟩
  · injection h1 with e1 e2 e3
    subst e1 e3
    have he : es = [] := List.eq_nil_of_length_eq_zero e2
    subst he
    refine Exe.of_ev tok Tryz.call115 Tryz.func115 rfl rfl rfl ?_
    have H2 : Hp ⟨w, M, I⟩ [row 71 5 (.slice none 0 0) 0 (ensC []), row 71 5 (.slice none 0 0) 0 (ensC [])] [] w := Hp.nil H 71 5
    exact Exists.intro ⟨none, 0, 0⟩ (And.intro rfl (And.intro rfl H2))
  · injection h1 with e1 e2 e3
    subst e1 e3
    refine Exe.of_ev tok Tryz.call115 Tryz.func115 rfl rfl rfl ?_
    refine slice_as tok H [] rfl rfl rfl rfl rfl rfl fun g2 w1 H1 => ?_
    have H2 : Hp ⟨w, M, I⟩ [row 71 5 (.slice (some ⟨g2, 0, none⟩) 0 0) 0 [], row 71 5 (.slice (some ⟨g, 0, none⟩) es.length c) es.length (ensC es)] [] w1 := H1.toRow 5 0 rfl (by decide)
    refine append_row (v := .slice (some ⟨g2, 0, none⟩) 0 0) (A := some ⟨g, 0, none⟩) (m := es.length) (c := c) tok H2 rfl rfl rfl rfl rfl rfl (ensC_one es) (by show (0 + es.length) * 40 ≤ _; omega) (by omega) fun A2 c2 w4 H4 => ?_
    exact Exists.intro ⟨A2, 0 + es.length, c2⟩ (And.intro rfl (And.intro (Nat.zero_add es.length) H4))
theorem sortedE (h : Hd) (hn : h.es.length ≤ 12) (w : World) (M I : BS) (H : Hp ⟨w, M, I⟩ [row 71 5 (.slice h.A h.es.length h.c) h.es.length (ensC h.es)] [EnF h.es] w) :
    Ctr Tryz.prog 61 [.slice h.A h.es.length h.c] w M I (fun s : Hd => .slice s.A s.es.length s.c) (fun s => s.es.Perm h.es ∧ srtE s.es) (fun s => [row 71 5 (.slice s.A s.es.length s.c) s.es.length (ensC s.es), row 71 5 (.slice h.A h.es.length h.c) h.es.length (ensC h.es)]) (fun s => [EnF s.es]) := by
  refine Exe.of_ev tok Tryz.call61 Tryz.func61 rfl rfl rfl ?_
  refine call_rule H (fun M I _ hh => cloneEnt h (by omega) _ M I hh) fun a w1 ha H1 => ?_
  have ha : a.n = h.es.length := ha
  have H2 : Hp ⟨w, M, I⟩ [row 71 5 (.slice a.A (⟨a.A, a.c, h.es⟩ : Hd).es.length a.c) (⟨a.A, a.c, h.es⟩ : Hd).es.length (ensC h.es), row 71 5 (.slice h.A h.es.length h.c) h.es.length (ensC h.es)] [EnF h.es] w1 := by
    show Hp ⟨w, M, I⟩ [row 71 5 (.slice a.A h.es.length a.c) h.es.length (ensC h.es), row 71 5 (.slice h.A h.es.length h.c) h.es.length (ensC h.es)] [EnF h.es] w1
    have e2 : row 71 5 (.slice a.A h.es.length a.c) h.es.length (ensC h.es) = row 71 5 (.slice a.A a.n a.c) a.n (ensC h.es) := by rw [ha]
    rw [e2]
    exact Hp.keep H1
  have hc : ∀ (w : World) (M I : BS), Hp ⟨w, M, I⟩ [row 71 5 (.slice a.A h.es.length a.c) h.es.length (ensC h.es)] [] w → Ctr Tryz.prog 66 [.slice a.A a.n a.c, .func (.func 116) #[] #[]] w M I (fun _ : List En => .tuple #[]) (fun l => l.Perm h.es ∧ srtE l) (fun l => [row 71 5 (.slice a.A h.es.length a.c) h.es.length (ensC l)]) (fun _ => []) := by
    rw [ha]
    exact fun w M I hh => sortHd 116 cmpB ⟨a.A, a.c, h.es⟩ hn w M I hh
  refine call_rule H2 (fun M I _ hh => hc _ M I hh) fun es w2 hes H3 => ?_
  have e1 : h.es.length = es.length := hes.1.length_eq.symm
  have H4 : Hp ⟨w, M, I⟩ [row 71 5 (.slice a.A es.length a.c) es.length (ensC es), row 71 5 (.slice h.A h.es.length h.c) h.es.length (ensC h.es)] [EnF es] w2 := by
    have H5 : Hp ⟨w, M, I⟩ [row 71 5 (.slice a.A h.es.length a.c) h.es.length (ensC es), row 71 5 (.slice h.A h.es.length h.c) h.es.length (ensC h.es)] [EnF h.es] w2 := Hp.keep H3
    have H6 := enF_perm hes.1 H5
    have e2 : (row 71 5 (.slice a.A es.length a.c) es.length (ensC es)) = row 71 5 (.slice a.A h.es.length a.c) h.es.length (ensC es) := by rw [e1]
    rw [e2]
    exact H6
  refine Exists.intro ⟨a.A, a.c, es⟩ (And.intro ?_ (And.intro hes H4))
  show Value.slice a.A a.n a.c = .slice a.A es.length a.c
  rw [ha, e1]
end Go.Proofs.YtjlfjjgjghdokaaGreatDoor
