/- From how many days back an event is taken: LoanWindows walked. -/
import Derived.Test.YtjlfjjgjghdokaaGreatDoorLw24
set_option linter.unusedVariables false
namespace Go.Proofs.YtjlfjjgjghdokaaGreatDoor
open Go Go.Proofs Go.Wk
theorem since_no {paid today : Int} : ∀ {l : List (Int × Int)}, (∀ d, d ∈ l → today < d.1) → sinceF paid today l = 0
  | [], _ => rfl
  | d :: r, h => by
    show (if paid < d.2 then (if today - d.1 < 0 then 0 else today - d.1) else sinceF paid today r) = 0
    have h1 := h d List.mem_cons_self
    rw [since_no fun x hx => h x (List.mem_cons_of_mem _ hx), if_pos (show today - d.1 < 0 by omega)]
    split <;> rfl
theorem takeBad (p : Nat) (o : Lo) (ok : LoOk o) (h18 : o.ps.length ≤ 18) (e : Ev) (hday : -2147483648 ≤ e.day ∧ e.day ≤ 2147483647) (today : Int) (ht : -2147483648 ≤ today ∧ today ≤ 2147483647) (c : Int) (hn : takeE o e today = some c) (w : World) (M I : BS) (H : Hp ⟨w, M, I⟩ (loA p o) (loF o) w) :
    Ctr Tryz.prog 30 [.pointer (some ⟨p, 0, none⟩), evV e, .int .i32 today] w M I (fun f : Nat => .iface 116 (.pointer (some ⟨f, 0, none⟩))) (fun _ => True) (fun f => blk f [.int .u64 o.S.loan, .iface 100 (.int .i64 c)] 118 :: loA p o) (fun _ => loF o) := by
  refine (loanTake p o ok h18 e hday today ht w M I H).imp fun a w' hφ h => ?_
  unfold tkOk at hφ
  rw [hn] at hφ
  obtain ⟨⟨f, ef⟩, eo⟩ := hφ
  refine ⟨f, ?_, trivial, ?_⟩
  · rw [ef]
  · rw [ef, eo] at h
    exact h
theorem codeFault (p : Nat) (a c : Int) (w : World) (M I : BS) (H : Hp ⟨w, M, I⟩ [blk p [.int .u64 a, .iface 100 (.int .i64 c)] 118] [Glob 0 errTy] w) :
    Ctr Tryz.prog 36 [.iface 116 (.pointer (some ⟨p, 0, none⟩))] w M I (fun _ : Unit => .int .i64 c) (fun _ => True) (fun _ => [blk p [.int .u64 a, .iface 100 (.int .i64 c)] 118]) (fun _ => []) := codeF (.fault p a c) w M I H
set_option maxHeartbeats 4000000 in
set_option maxRecDepth 20000 in
theorem windWalk (t : Tm) (hin0 : TmIn t) (dn bk : Int) (hdn : inK .u8 dn) (hbk : inK .i8 bk) (w : World) (M I : BS) (hM : ∀ b, ¬ M b) (H : Hp ⟨w, M, I⟩ [] [Glob 0 errTy, LibF] w) :
    Ctr Tryz.prog 8 [tmV t, .int .u8 dn, .int .i8 bk] w M I (fun _ : Unit => .bool true) (fun _ => True) (fun _ => []) (fun _ => []) := by
  have hdn0 : 0 ≤ dn := hdn.1
  have hbk0 : -128 ≤ bk ∧ bk ≤ 127 := hbk
  have hin := smT_in hin0
  refine Exe.of_ev tok Tryz.call8 Tryz.func8 rfl rfl rfl ?_
  refine box_as H (tmC t) rfl fun r w1 H1 => ?_
  refine call_rule H1 (fun M I h0 h => awake18 _ M I (h0 rfl) h) fun _ w2 _ H2 => ?_
  refine load_rule tok H2 (v := tmV t) rfl ?_
  refine call_rule H2 (fun M I _ h => small_ t _ M I h) fun _ w3 _ H3 => ?_
  refine Exists.elim (show ∃ u, u = smT t from ⟨_, rfl⟩) fun u eu => ?_
  rw [← eu] at hin
  refine store_as tok H3 (tmC (smT t)) rfl rfl rfl rfl rfl fun w4 H4 => ?_
  rw [← eu] at H4
  refine load_rule tok H4 (v := tmV u) rfl ?_
  refine call_rule H4 (fun M I _ h => ownTm18 u hin _ M I h) fun _ w5 _ H5 => ?_
  refine call_rule H5 (fun M I _ h => refRight u hin _ M I h) fun _ w6 _ H6 => ?_
  refine br (fun q => ?_) (fun q => ?_)
  · exact Exists.intro () (And.intro rfl (And.intro trivial (Hp.keep H6)))
  have q : rtB u = true := by have q : (!rtB u) = false := q; simpa using q
  have hb : tmB u = true := by rw [← rtB_eq]; exact q
  have ok := tmB_iff.1 hb
  have hst := ok.start
  have H6 : Hp ⟨w, M, I⟩ [blk r (tmC u) 28] [Sl dayR (.slice none 0 0) [], Glob 0 errTy] w6 := Hp.keep (Hp.slNil dayR H6)
  refine load_rule tok H6 (v := tmV u) rfl ?_
  refine call_rule H6 (fun M I h0 h => loanNew 7 ⟨by decide, by decide⟩ u hin none 0 0 [] hb (by decide) _ M I (h0 rfl) h) fun a w7 ha H7 => ?_
  have hsu : a.2.S.t.start = u.start := by rw [ha.tm]
  have hps : a.2.ps = [] := ha.ps
  refine Exists.elim (show ∃ k : Nat, (k : Int) = dn % 50 from ⟨(dn % 50).toNat, by omega⟩) fun k ek => ?_
  have hk : k < 50 := by omega
  have er : dn.tmod 50 = (k : Int) := by rw [Int.tmod_eq_emod_of_nonneg hdn0]; omega
  have ekw : IntKind.i64.wrap (k : Int) = (k : Int) := w64 (by omega) (by omega)
  refine rem_as ((k : Nat) : Int) (by decide) er ?_
  have hr0 : told a.2.S (u.start - 1 + ((0 : Nat) : Int)) [] a.2.x (a.2.h.es.map kl) := by
    have h0 := ha.told
    rw [hps, ha.thr] at h0
    have e : u.start - 1 + ((0 : Nat) : Int) = u.start - 1 := by omega
    rw [e]
    exact h0
  have H8 : Hp ⟨w, M, I⟩ [blk a.1 (loC (oL a.2 u.start ⟨0, a.2.x, a.2.h⟩)) 141, row 105 5 (.slice a.2.pv.A a.2.pv.n a.2.pv.c) a.2.pv.n (pasC a.2.ps), blk a.2.sb (stoC a.2.S a.2.dv) 120, row 71 5 (.slice a.2.h.A a.2.h.es.length a.2.h.c) a.2.h.es.length (ensC a.2.h.es), blk r (tmC u) 28] [Sl dueR (.slice a.2.dv.A a.2.dv.n a.2.dv.c) a.2.S.dues, EnF a.2.h.es, Glob 0 errTy] w7 := by
    have e : a.2.thr = u.start - 1 + ((0 : Nat) : Int) := by rw [ha.thr]; omega
    have e2 : loC (oL a.2 u.start ⟨0, a.2.x, a.2.h⟩) = loC a.2 := by
      show loC { a.2 with thr := u.start - 1 + ((0 : Nat) : Int) } = loC a.2
      rw [← e]
    rw [e2]
    exact Hp.keep H7
  refine loop_out tok (σ := RL) (τ := RL) 35175782155328 0 (fun s => [(33, .int .i64 (s.i : Int))]) (fun s w' => s.i ≤ k ∧ told a.2.S (u.start - 1 + (s.i : Int)) [] s.x (s.h.es.map kl) ∧ Hp ⟨w, M, I⟩ [blk a.1 (loC (oL a.2 u.start s)) 141, row 105 5 (.slice a.2.pv.A a.2.pv.n a.2.pv.c) a.2.pv.n (pasC a.2.ps), blk a.2.sb (stoC a.2.S a.2.dv) 120, row 71 5 (.slice s.h.A s.h.es.length s.h.c) s.h.es.length (ensC s.h.es), blk r (tmC u) 28] [Sl dueR (.slice a.2.dv.A a.2.dv.n a.2.dv.c) a.2.S.dues, EnF s.h.es, Glob 0 errTy] w') (fun s => k - s.i) ⟨0, a.2.x, a.2.h⟩
    (fun _ => []) (fun s w' => s.i = k ∧ told a.2.S (u.start - 1 + (s.i : Int)) [] s.x (s.h.es.map kl) ∧ Hp ⟨w, M, I⟩ [blk a.1 (loC (oL a.2 u.start s)) 141, row 105 5 (.slice a.2.pv.A a.2.pv.n a.2.pv.c) a.2.pv.n (pasC a.2.ps), blk a.2.sb (stoC a.2.S a.2.dv) 120, row 71 5 (.slice s.h.A s.h.es.length s.h.c) s.h.es.length (ensC s.h.es), blk r (tmC u) 28] [Sl dueR (.slice a.2.dv.A a.2.dv.n a.2.dv.c) a.2.S.dues, EnF s.h.es, Glob 0 errTy] w') rfl rfl ⟨rfl, trivial⟩ ⟨Nat.zero_le _, hr0, H8⟩ ?_ ?_
  · intro s j w8 hW
    have hi := hW.1
    have ht := hW.2.1
    have H9 := hW.2.2
    have ew : IntKind.i64.wrap ((s.i : Int) + 1) = ((s.i + 1 : Nat) : Int) := w64 (by omega) (by omega)
    refine brd (fun q2 => ?_) (fun q2 => ?_)
    · rw [ekw] at q2
      have hil : s.i < k := Int.ofNat_lt.1 q2
      have ed : IntKind.i32.wrap (u.start + IntKind.i32.wrap (s.i : Int)) = u.start + (s.i : Int) := by rw [i32w (n := (s.i : Int)) (by omega) (by omega)]; exact i32w (by omega) (by omega)
      have oks : LoOk (oL a.2 u.start s) := ha.ok.run (by rw [hsu]; omega) (by rw [hsu]; omega)
      refine load_rule tok H9 (v := .int .i32 u.start) rfl ?_
      refine call_rule H9 (fun M I _ h => loanRun a.1 (oL a.2 u.start s) oks (IntKind.i32.wrap (u.start + IntKind.i32.wrap (s.i : Int))) (by rw [ed]; show u.start + (s.i : Int) = u.start - 1 + (s.i : Int) + 1; omega) (by rw [ed]; show u.start + (s.i : Int) ≤ a.2.S.t.start + 10000; rw [hsu]; omega) (by rw [ed]; omega) _ M I h) fun b w9 hb9 H10 => ?_
      have e3 : u.start + (s.i : Int) = u.start - 1 + ((s.i + 1 : Nat) : Int) := by omega
      refine Exists.intro ⟨s.i + 1, b.1, b.2⟩ (And.intro ⟨congrArg (Value.int .i64) ew, trivial⟩ (And.intro ?_ ⟨?_, ?_, ?_⟩))
      · show k - (s.i + 1) < k - s.i
        omega
      · show s.i + 1 ≤ k
        omega
      · have h0 := hb9
        rw [ed, e3] at h0
        have h1 : (oL a.2 u.start s).ps = [] := hps
        rw [h1] at h0
        exact h0
      · show Hp ⟨w, M, I⟩ [blk a.1 (loC { a.2 with thr := u.start - 1 + ((s.i + 1 : Nat) : Int), x := b.1, h := b.2 }) 141, row 105 5 (.slice a.2.pv.A a.2.pv.n a.2.pv.c) a.2.pv.n (pasC a.2.ps), blk a.2.sb (stoC a.2.S a.2.dv) 120, row 71 5 (.slice b.2.A b.2.es.length b.2.c) b.2.es.length (ensC b.2.es), blk r (tmC u) 28] [Sl dueR (.slice a.2.dv.A a.2.dv.n a.2.dv.c) a.2.S.dues, EnF b.2.es, Glob 0 errTy] w9
        rw [← e3, ← ed]
        exact Hp.keep H10
    · rw [ekw] at q2
      have q2 : ¬ (s.i : Int) < (k : Int) := q2
      exact Exists.intro s (And.intro trivial ⟨by omega, ht, H9⟩)
  intro s j w8 hW
  have hik := hW.1
  have ht := hW.2.1
  have H9 := hW.2.2
  refine Exists.elim (show ∃ o : Lo, o = oL a.2 u.start s from ⟨_, rfl⟩) fun o eo => ?_
  have oko : LoOk o := by rw [eo]; exact ha.ok.run (by rw [hsu]; omega) (by rw [hsu]; omega)
  have hoS : o.S = a.2.S := by rw [eo]
  have hops : o.ps = [] := by rw [eo]; exact hps
  have hothr : o.thr = u.start - 1 + (k : Int) := by rw [eo, ← hik]
  have hact : o.x.status = 1 := by
    rw [eo]
    have h0 := ht
    rw [← hsu] at h0
    exact told_active ha.ok.sto (by omega) h0
  have hlate : ∀ x : St, ((if x.status = 1 then sinceF x.paid u.start a.2.S.dues else 0) == 0) = true := fun x => by
    have h0 : sinceF x.paid u.start a.2.S.dues = 0 := since_no (dues_gt ha.dues)
    rw [h0]
    split <;> rfl
  have H9 : Hp ⟨w, M, I⟩ [blk a.1 (loC o) 141, row 105 5 (.slice o.pv.A o.pv.n o.pv.c) o.pv.n (pasC o.ps), blk o.sb (stoC o.S o.dv) 120, row 71 5 (.slice o.h.A o.h.es.length o.h.c) o.h.es.length (ensC o.h.es), blk r (tmC u) 28] [Sl dueR (.slice o.dv.A o.dv.n o.dv.c) o.S.dues, EnF o.h.es, Glob 0 errTy] w8 := by
    rw [eo]
    exact Hp.keep H9
  have etd : IntKind.i32.wrap (u.start + IntKind.i32.wrap (IntKind.i64.wrap (k : Int))) = u.start + (k : Int) := by rw [ekw, i32w (n := (k : Int)) (by omega) (by omega)]; exact i32w (by omega) (by omega)
  refine Exists.elim (show ∃ td, td = IntKind.i32.wrap (u.start + IntKind.i32.wrap (IntKind.i64.wrap (k : Int))) from ⟨_, rfl⟩) fun td ht1 => ?_
  have htd : td = u.start + (k : Int) := by rw [ht1, etd]
  refine Exists.elim (show ∃ e : Ev, e = ⟨1, (IntKind.i32.wrap (IntKind.i32.wrap (u.start + IntKind.i32.wrap (IntKind.i64.wrap (k : Int))) - IntKind.i32.wrap bk)), 5, 5⟩ from ⟨_, rfl⟩) fun e ee => ?_
  have edd : (IntKind.i32.wrap (IntKind.i32.wrap (u.start + IntKind.i32.wrap (IntKind.i64.wrap (k : Int))) - IntKind.i32.wrap bk)) = u.start + (k : Int) - bk := by rw [etd, i32w (n := bk) (by omega) (by omega)]; exact i32w (by omega) (by omega)
  have he1 : e.day = u.start + (k : Int) - bk := by rw [ee]; exact edd
  have he2 : e.kind = 5 := by rw [ee]
  have he3 : e.amt = 5 := by rw [ee]
  have he4 : e.seq = 1 := by rw [ee]
  have q2 : ¬ 0 ≤ findI e.seq o.ps 0 := by rw [hops]; show ¬ (0 : Int) ≤ -1; decide
  have hrb : evRB e = decide (0 ≤ u.start + (k : Int) - bk) := by
    unfold evRB
    rw [if_pos (Or.inr (Or.inl he2)), he1, he3]
    simp only [dayB, coinB]
    rw [decide_eq_true (show u.start + (k : Int) - bk ≤ 3652058 by omega)]
    simp
  have hop : opnB o e.day td = (decide (bk ≤ (k : Int)) && (decide (0 ≤ bk) && decide (bk < 30))) := by
    unfold opnB
    rw [hoS, hsu, he1, htd, hothr]
    rw [Bool.eq_iff_iff]
    simp only [Bool.and_eq_true, decide_eq_true_eq]
    constructor <;> intro h <;> omega
  have ebw : IntKind.i64.wrap bk = bk := i64w (by omega) (by omega)
  refine load_rule tok H9 (v := .int .i32 u.start) rfl ?_
  by_cases p1 : u.start + (k : Int) - bk < 0
  · have hn : takeE o e td = some 1 := by unfold takeE; rw [if_pos (by rw [hrb]; exact decide_eq_false (by omega))]
    refine call_rule H9 (fun M I _ h => takeBad a.1 o oko (by rw [hops]; decide) ⟨1, (IntKind.i32.wrap (IntKind.i32.wrap (u.start + IntKind.i32.wrap (IntKind.i64.wrap (k : Int))) - IntKind.i32.wrap bk)), 5, 5⟩ (by show -2147483648 ≤ (IntKind.i32.wrap (IntKind.i32.wrap (u.start + IntKind.i32.wrap (IntKind.i64.wrap (k : Int))) - IntKind.i32.wrap bk)) ∧ (IntKind.i32.wrap (IntKind.i32.wrap (u.start + IntKind.i32.wrap (IntKind.i64.wrap (k : Int))) - IntKind.i32.wrap bk)) ≤ 2147483647; rw [edd]; omega) (IntKind.i32.wrap (u.start + IntKind.i32.wrap (IntKind.i64.wrap (k : Int)))) (by rw [etd]; omega) 1 (by rw [← ee, ← ht1]; exact hn) _ M I h) fun f w9 _ H10 => ?_
    refine brd (fun c1 => ?_) (fun c1 => ?_)
    · refine brd (fun c2 => ?_) (fun c2 => ?_)
      · rw [ebw, ekw] at c2
        have c2 : bk ≤ (k : Int) := c2
        have c1 : 0 ≤ bk := c1
        refine brd (fun _ => ?_) (fun q => absurd q (by rw [edd]; show ¬ ¬ u.start + (k : Int) - bk < 0; omega))
        refine call_rule H10 (fun M I _ h => codeFault f o.S.loan 1 _ M I h) fun _ w10 _ H11 => ?_
        exact Exists.intro () (And.intro rfl (And.intro trivial (Hp.keep H11)))
      · 
        refine brd (fun _ => ?_) (fun q => absurd q (by rw [edd]; show ¬ ¬ u.start + (k : Int) - bk < 0; omega))
        refine call_rule H10 (fun M I _ h => codeFault f o.S.loan 1 _ M I h) fun _ w10 _ H11 => ?_
        exact Exists.intro () (And.intro rfl (And.intro trivial (Hp.keep H11)))
    · exact absurd (show 0 ≤ bk by omega) c1
  by_cases p2 : bk ≤ (k : Int) ∧ 0 ≤ bk ∧ bk < 30
  · have hn : takeE o e td = none := by
      unfold takeE
      rw [if_neg (by rw [hrb, decide_eq_true (by omega)]; decide), if_neg q2, if_neg (by rw [hop, decide_eq_true p2.1, decide_eq_true p2.2.1, decide_eq_true p2.2.2]; decide), if_neg (by rw [hact]; decide), if_neg (by rw [hact]; exact fun hh => absurd hh.1 (by decide))]
    refine call_rule H9 (fun M I _ h => takeGood a.1 o oko (by rw [hops]; decide) ⟨1, (IntKind.i32.wrap (IntKind.i32.wrap (u.start + IntKind.i32.wrap (IntKind.i64.wrap (k : Int))) - IntKind.i32.wrap bk)), 5, 5⟩ (by show -2147483648 ≤ (IntKind.i32.wrap (IntKind.i32.wrap (u.start + IntKind.i32.wrap (IntKind.i64.wrap (k : Int))) - IntKind.i32.wrap bk)) ∧ (IntKind.i32.wrap (IntKind.i32.wrap (u.start + IntKind.i32.wrap (IntKind.i64.wrap (k : Int))) - IntKind.i32.wrap bk)) ≤ 2147483647; rw [edd]; omega) (IntKind.i32.wrap (u.start + IntKind.i32.wrap (IntKind.i64.wrap (k : Int)))) (by rw [etd]; omega) (by rw [← ee, ← ht1]; exact hn) _ M I h) fun rr w9 hrr H10 => ?_
    have okr : LoOk rr := hrr.2.2.2.2.2.1
    have hrS : rr.S = a.2.S := by rw [hrr.1]; exact hoS
    refine brd (fun _ => ?_) (fun q => absurd q (by show ¬ ¬ (0 : Int) ≤ bk; omega))
    refine brd (fun _ => ?_) (fun q => absurd q (by rw [ebw, ekw]; show ¬ ¬ bk ≤ (k : Int); omega))
    refine brd (fun q => absurd q (by rw [edd]; show ¬ u.start + (k : Int) - bk < 0; omega)) (fun _ => ?_)
    refine br (fun _ => ?_) (fun q => absurd q (by rw [decide_eq_true p2.2.2]; decide))
    refine load_rule tok H10 (v := .int .i32 u.start) rfl ?_
    refine call_rule H10 (fun M I _ h => loanLate a.1 rr okr u.start (by omega) _ M I h) fun _ w15 _ H16 => ?_
    refine Exists.intro () (And.intro (congrArg Value.bool ?_) (And.intro trivial (Hp.keep H16)))
    rw [hrS]
    exact hlate rr.x
  have hn : takeE o e td = some 11 := by
    have q3 : opnB o e.day td = false := by
      rw [hop]
      by_cases c1 : bk ≤ (k : Int)
      · by_cases c2 : 0 ≤ bk
        · rw [decide_eq_false (fun c3 => p2 ⟨c1, c2, c3⟩)]; simp
        · rw [decide_eq_false c2]; simp
      · rw [decide_eq_false c1]; rfl
    unfold takeE
    rw [if_neg (by rw [hrb, decide_eq_true (by omega)]; decide), if_neg q2, if_pos q3]
  refine call_rule H9 (fun M I _ h => takeBad a.1 o oko (by rw [hops]; decide) ⟨1, (IntKind.i32.wrap (IntKind.i32.wrap (u.start + IntKind.i32.wrap (IntKind.i64.wrap (k : Int))) - IntKind.i32.wrap bk)), 5, 5⟩ (by show -2147483648 ≤ (IntKind.i32.wrap (IntKind.i32.wrap (u.start + IntKind.i32.wrap (IntKind.i64.wrap (k : Int))) - IntKind.i32.wrap bk)) ∧ (IntKind.i32.wrap (IntKind.i32.wrap (u.start + IntKind.i32.wrap (IntKind.i64.wrap (k : Int))) - IntKind.i32.wrap bk)) ≤ 2147483647; rw [edd]; omega) (IntKind.i32.wrap (u.start + IntKind.i32.wrap (IntKind.i64.wrap (k : Int)))) (by rw [etd]; omega) 11 (by rw [← ee, ← ht1]; exact hn) _ M I h) fun f w9 _ H10 => ?_
  refine brd (fun c1 => ?_) (fun c1 => ?_)
  · refine brd (fun c2 => ?_) (fun c2 => ?_)
    · rw [ebw, ekw] at c2
      have c2 : bk ≤ (k : Int) := c2
      have c1 : 0 ≤ bk := c1
      refine brd (fun q => absurd q (by rw [edd]; show ¬ u.start + (k : Int) - bk < 0; omega)) (fun _ => ?_)
      refine br (fun _ => ?_) (fun q => absurd q (by rw [decide_eq_false (fun c3 => p2 ⟨c2, c1, c3⟩)]; decide))
      refine call_rule H10 (fun M I _ h => codeFault f o.S.loan 11 _ M I h) fun _ w10 _ H11 => ?_
      refine load_rule tok H11 (v := .int .i32 u.start) rfl ?_
      refine call_rule H11 (fun M I _ h => loanLate a.1 o oko u.start (by omega) _ M I h) fun _ w15 _ H16 => ?_
      refine Exists.intro () (And.intro (congrArg Value.bool ?_) (And.intro trivial (Hp.keep H16)))
      rw [hoS]
      exact hlate o.x
    · 
      refine brd (fun q => absurd q (by rw [edd]; show ¬ u.start + (k : Int) - bk < 0; omega)) (fun _ => ?_)
      refine call_rule H10 (fun M I _ h => codeFault f o.S.loan 11 _ M I h) fun _ w10 _ H11 => ?_
      refine load_rule tok H11 (v := .int .i32 u.start) rfl ?_
      refine call_rule H11 (fun M I _ h => loanLate a.1 o oko u.start (by omega) _ M I h) fun _ w15 _ H16 => ?_
      refine Exists.intro () (And.intro (congrArg Value.bool ?_) (And.intro trivial (Hp.keep H16)))
      rw [hoS]
      exact hlate o.x
  · 
    refine brd (fun q => absurd q (by rw [edd]; show ¬ u.start + (k : Int) - bk < 0; omega)) (fun _ => ?_)
    refine call_rule H10 (fun M I _ h => codeFault f o.S.loan 11 _ M I h) fun _ w10 _ H11 => ?_
    refine load_rule tok H11 (v := .int .i32 u.start) rfl ?_
    refine call_rule H11 (fun M I _ h => loanLate a.1 o oko u.start (by omega) _ M I h) fun _ w15 _ H16 => ?_
    refine Exists.intro () (And.intro (congrArg Value.bool ?_) (And.intro trivial (Hp.keep H16)))
    rw [hoS]
    exact hlate o.x
end Go.Proofs.YtjlfjjgjghdokaaGreatDoor
