/- A loan: it takes an event: the walk. -/
import Derived.Test.YtjlfjjgjghdokaaGreatDoorLy23
set_option linter.unusedVariables false
namespace Go.Proofs.YtjlfjjgjghdokaaGreatDoor
open Go Go.Proofs Go.Wk
/-- What taking an event answers. -/
def takeE (o : Lo) (e : Ev) (today : Int) : Option Int :=
  if evRB e = false then some 1
  else if 0 ≤ findI e.seq o.ps 0 then some 10
  else if opnB o e.day today = false then some 11
  else if o.x.status = 2 then some 9
  else if o.x.status = 3 ∧ e.kind ≠ 4 then some 14
  else none
structure TkR where
  e : ErrF
  o : Lo
def tkOk (o : Lo) (e : Ev) (today : Int) (r : TkR) : Prop := match takeE o e today with
  | some c => (∃ f, r.e = .fault f o.S.loan c) ∧ r.o = o
  | none => r.e = .none ∧ r.o.S = o.S ∧ r.o.sb = o.sb ∧ r.o.dv = o.dv ∧ r.o.thr = o.thr ∧ r.o.ps = o.ps ++ [(⟨e, false⟩ : Pa)] ∧ LoOk r.o ∧ told o.S o.thr (o.ps ++ [(⟨e, false⟩ : Pa)]) r.o.x (r.o.h.es.map kl)
theorem pasC_snoc (l : List Pa) (x : Pa) : pasC l ++ paC x = pasC (l ++ [x]) := (flatL_snoc (f := paC) l x).symm
theorem evRB_amt {e : Ev} (h : ¬ evRB e = false) : EvA e := by
  have h : evRB e = true := by simpa using h
  unfold evRB at h
  split at h
  · simp only [Bool.and_eq_true, decide_eq_true_eq, coinB] at h
    exact ⟨by omega, by omega⟩
  · split at h
    · simp only [Bool.and_eq_true, beq_iff_eq] at h
      exact ⟨by omega, by omega⟩
    · cases h
theorem takenOk {o : Lo} (ok : LoOk o) (h18 : o.ps.length ≤ 18) {e : Ev} (n1 : ¬ evRB e = false) (A2 : Option Addr) (c2 : Nat) : LoOk { o with ps := o.ps ++ [(⟨e, false⟩ : Pa)], pv := ⟨A2, o.pv.n + 1, c2⟩ } := by
  refine ⟨ok.sto, ?_, ?_, ?_, ok.thr, ok.loan⟩
  · show o.pv.n + 1 = (o.ps ++ [(⟨e, false⟩ : Pa)]).length
    rw [List.length_append, ok.pn]
    rfl
  · intro q hq
    rcases List.mem_append.1 hq with hq | hq
    · exact ok.ev q hq
    · rw [List.mem_singleton] at hq
      rw [hq]
      exact evRB_amt n1
  · show (o.ps ++ [(⟨e, false⟩ : Pa)]).length ≤ 19
    rw [List.length_append]
    show o.ps.length + 1 ≤ 19
    omega
set_option maxHeartbeats 2000000 in
set_option maxRecDepth 20000 in
theorem loanTake (p : Nat) (o : Lo) (ok : LoOk o) (h18 : o.ps.length ≤ 18) (e : Ev) (hday : -2147483648 ≤ e.day ∧ e.day ≤ 2147483647) (today : Int) (ht : -2147483648 ≤ today ∧ today ≤ 2147483647) (w : World) (M I : BS) (H : Hp ⟨w, M, I⟩ (loA p o) (loF o) w) :
    Ctr Tryz.prog 30 [.pointer (some ⟨p, 0, none⟩), evV e, .int .i32 today] w M I (fun r : TkR => errFV r.e) (tkOk o e today) (fun r => errFA r.e :: loA p r.o) (fun r => loF r.o) := by
  have hpn := ok.pn
  have hln := ok.loan
  refine Exe.of_ev tok Tryz.call30 Tryz.func30 rfl rfl rfl ?_
  refine box_as H (evC e) rfl fun eb w1 H1 => ?_
  have fail : ∀ (c : Int) (f : Nat) (w' : World), takeE o e today = some c → Hp ⟨w, M, I⟩ (errFA (.fault f o.S.loan c) :: loA p o) (loF o) w' → ∃ r : TkR, errFV (.fault f o.S.loan c) = errFV r.e ∧ tkOk o e today r ∧ Hp ⟨w, M, I⟩ (errFA r.e :: loA p r.o) (loF r.o) w' := fun c f w' hc h => by
    refine ⟨⟨.fault f o.S.loan c, o⟩, rfl, ?_, h⟩
    unfold tkOk
    rw [hc]
    exact ⟨⟨f, rfl⟩, rfl⟩
  refine load_rule tok H1 (v := evV e) rfl ?_
  refine call_rule H1 (fun M I _ h => evRight e _ M I h) fun _ w2 _ H2 => ?_
  refine br (fun q1 => ?_) (fun q1 => ?_)
  · have q1 : evRB e = false := by
      have q1 : (!evRB e) = true := q1
      simpa using q1
    refine call_rule H2 (fun M I _ h => loanFault p o hln 1 _ M I h) fun f w3 _ H3 => ?_
    exact fail 1 f w3 (by unfold takeE; rw [if_pos q1]) (Hp.keep H3)
  have n1 : ¬ evRB e = false := by
    have q1 : (!evRB e) = false := q1
    simpa using q1
  refine load_rule tok H2 (v := .int .u32 e.seq) rfl ?_
  refine call_rule H2 (fun M I _ h => loanFind p o hpn e.seq _ M I h) fun _ w3 _ H3 => ?_
  refine brd (fun q2 => ?_) (fun q2 => ?_)
  · refine call_rule H3 (fun M I _ h => loanFault p o hln 10 _ M I h) fun f w4 _ H4 => ?_
    exact fail 10 f w4 (by unfold takeE; rw [if_neg n1, if_pos q2]) (Hp.keep H4)
  refine load_rule tok H3 (v := .slice o.pv.A o.pv.n o.pv.c) rfl ?_
  refine brd (fun q => absurd q (by show ¬ (500 : Int) ≤ (o.pv.n : Int); omega)) (fun _ => ?_)
  refine load_rule tok H3 (v := .int .i32 e.day) rfl ?_
  refine call_rule H3 (fun M I _ h => loanOpen p o ok e.day today hday ht _ M I h) fun _ w4 _ H4 => ?_
  refine br (fun q3 => ?_) (fun q3 => ?_)
  · have q3 : opnB o e.day today = false := by
      have q3 : (!opnB o e.day today) = true := q3
      simpa using q3
    refine call_rule H4 (fun M I _ h => loanFault p o hln 11 _ M I h) fun f w5 _ H5 => ?_
    exact fail 11 f w5 (by unfold takeE; rw [if_neg n1, if_neg q2, if_pos q3]) (Hp.keep H5)
  have n3 : ¬ opnB o e.day today = false := by
    have q3 : (!opnB o e.day today) = false := q3
    simpa using q3
  refine load_rule tok H4 (v := .int .u8 o.x.status) rfl ?_
  refine br (fun q4 => ?_) (fun q4 => ?_)
  · have q4 : o.x.status = 2 := eq_of_beq q4
    refine call_rule H4 (fun M I _ h => loanFault p o hln 9 _ M I h) fun f w5 _ H5 => ?_
    exact fail 9 f w5 (by unfold takeE; rw [if_neg n1, if_neg q2, if_neg n3, if_pos q4]) (Hp.keep H5)
  have n4 : ¬ o.x.status = 2 := ne_of_beq_false q4
  refine load_rule tok H4 (v := .int .u8 o.x.status) rfl ?_
  refine br (fun q5 => ?_) (fun q5 => ?_)
  · have q5 : o.x.status = 3 := eq_of_beq q5
    refine load_rule tok H4 (v := .int .u8 e.kind) rfl ?_
    refine br (fun q6 => ?_) (fun q6 => ?_)
    · have q6 : e.kind ≠ 4 := by
        have q6 : (!(e.kind == 4)) = true := q6
        simpa using q6
      refine call_rule H4 (fun M I _ h => loanFault p o hln 14 _ M I h) fun f w5 _ H5 => ?_
      exact fail 14 f w5 (by unfold takeE; rw [if_neg n1, if_neg q2, if_neg n3, if_neg n4, if_pos ⟨q5, q6⟩]) (Hp.keep H5)
    · have q6 : e.kind = 4 := by
        have q6 : (!(e.kind == 4)) = false := q6
        simpa using q6
      have hn : takeE o e today = none := by unfold takeE; rw [if_neg n1, if_neg q2, if_neg n3, if_neg n4, if_neg (fun hh => hh.2 q6)]
      have H4 : Hp ⟨w, M, I⟩ [blk p (loC o) 141, row 105 5 (.slice o.pv.A o.pv.n o.pv.c) o.pv.n (pasC o.ps), blk o.sb (stoC o.S o.dv) 120, row 71 5 (.slice o.h.A o.h.es.length o.h.c) o.h.es.length (ensC o.h.es), blk eb (evC e) 65] (loF o) w4 := Hp.keep H4
      refine draw_rule (A := [blk p (loC o) 141, row 105 5 (.slice o.pv.A o.pv.n o.pv.c) o.pv.n (pasC o.ps)]) tok tdr H4 [1, 2, 3, 4, 5, 6, 7, 8, 0, 9, 10, 11] [0, 0, 2, 6, 14, 0, 32, 96, 254, 511, 1023, 2047] rfl ?_
      refine pass_last _ rfl (fun X w h => load_rule tok h (v := .slice o.pv.A o.pv.n o.pv.c) rfl ⟨rfl, rfl⟩) ?_
      refine pass_rule _ (fun w h => load_rule tok h (v := evV e) rfl ⟨rfl, rfl⟩) ?_
      refine fresh_slice tok (paC ⟨e, false⟩) rfl rfl rfl rfl rfl rfl rfl fun g => ?_
      refine imp_rule (fun X wx h => append_rule (v := .slice o.pv.A o.pv.n o.pv.c) (b := g) (m := 1) (c := 1) tok h rfl rfl rfl rfl rfl rfl rfl rfl (by show (o.pv.n + 1) * 32 ≤ _; omega) (by omega) fun A2 c2 w5 H5 => imp_done H5 ?_)
      refine imp_rule (fun X wx h => store_as tok h (loC { o with pv := ⟨A2, o.pv.n + 1, c2⟩ }) rfl rfl rfl rfl rfl fun w5 H5 => imp_done H5 ?_)
      refine done_rule fun w6 H6 => ?_
      have H6 : Hp ⟨w, M, I⟩ (loA p { o with ps := o.ps ++ [(⟨e, false⟩ : Pa)], pv := ⟨A2, o.pv.n + 1, c2⟩ }) (loF o) w6 := by
        show Hp ⟨w, M, I⟩ [blk p (loC { o with pv := ⟨A2, o.pv.n + 1, c2⟩ }) 141, row 105 5 (.slice A2 (o.pv.n + 1) c2) (o.pv.n + 1) (pasC (o.ps ++ [(⟨e, false⟩ : Pa)])), blk o.sb (stoC o.S o.dv) 120, row 71 5 (.slice o.h.A o.h.es.length o.h.c) o.h.es.length (ensC o.h.es)] (loF o) w6
        rw [← pasC_snoc]
        exact Hp.keep H6
      have ok2 := takenOk ok h18 (n1 := n1) A2 c2
      refine call_rule H6 (fun M I _ h => ltell p { o with ps := o.ps ++ [(⟨e, false⟩ : Pa)], pv := ⟨A2, o.pv.n + 1, c2⟩ } ok2 _ M I h) fun a w7 ha H7 => ?_
      refine Exists.intro ⟨.none, { o with ps := o.ps ++ [(⟨e, false⟩ : Pa)], pv := ⟨A2, o.pv.n + 1, c2⟩, x := a.1, h := a.2 }⟩ (And.intro rfl (And.intro ?_ ?_))
      · unfold tkOk
        rw [hn]
        exact ⟨rfl, rfl, rfl, rfl, rfl, rfl, ⟨ok2.sto, ok2.pn, ok2.ev, ok2.few, ok2.thr, ok2.loan⟩, ha⟩
      · show Hp ⟨w, M, I⟩ (empA :: loA p { o with ps := o.ps ++ [(⟨e, false⟩ : Pa)], pv := ⟨A2, o.pv.n + 1, c2⟩, x := a.1, h := a.2 }) (loF { o with ps := o.ps ++ [(⟨e, false⟩ : Pa)], pv := ⟨A2, o.pv.n + 1, c2⟩, x := a.1, h := a.2 }) w7
        exact Hp.keep (Hp.addEmp H7)
  · have q5 : o.x.status ≠ 3 := ne_of_beq_false q5
    have hn : takeE o e today = none := by unfold takeE; rw [if_neg n1, if_neg q2, if_neg n3, if_neg n4, if_neg (fun hh => q5 hh.1)]
    have H4 : Hp ⟨w, M, I⟩ [blk p (loC o) 141, row 105 5 (.slice o.pv.A o.pv.n o.pv.c) o.pv.n (pasC o.ps), blk o.sb (stoC o.S o.dv) 120, row 71 5 (.slice o.h.A o.h.es.length o.h.c) o.h.es.length (ensC o.h.es), blk eb (evC e) 65] (loF o) w4 := Hp.keep H4
    refine draw_rule (A := [blk p (loC o) 141, row 105 5 (.slice o.pv.A o.pv.n o.pv.c) o.pv.n (pasC o.ps)]) tok tdr H4 [1, 2, 3, 4, 5, 6, 7, 8, 0, 9, 10, 11] [0, 0, 2, 6, 14, 0, 32, 96, 254, 511, 1023, 2047] rfl ?_
    refine pass_last _ rfl (fun X w h => load_rule tok h (v := .slice o.pv.A o.pv.n o.pv.c) rfl ⟨rfl, rfl⟩) ?_
    refine pass_rule _ (fun w h => load_rule tok h (v := evV e) rfl ⟨rfl, rfl⟩) ?_
    refine fresh_slice tok (paC ⟨e, false⟩) rfl rfl rfl rfl rfl rfl rfl fun g => ?_
    refine imp_rule (fun X wx h => append_rule (v := .slice o.pv.A o.pv.n o.pv.c) (b := g) (m := 1) (c := 1) tok h rfl rfl rfl rfl rfl rfl rfl rfl (by show (o.pv.n + 1) * 32 ≤ _; omega) (by omega) fun A2 c2 w5 H5 => imp_done H5 ?_)
    refine imp_rule (fun X wx h => store_as tok h (loC { o with pv := ⟨A2, o.pv.n + 1, c2⟩ }) rfl rfl rfl rfl rfl fun w5 H5 => imp_done H5 ?_)
    refine done_rule fun w6 H6 => ?_
    have H6 : Hp ⟨w, M, I⟩ (loA p { o with ps := o.ps ++ [(⟨e, false⟩ : Pa)], pv := ⟨A2, o.pv.n + 1, c2⟩ }) (loF o) w6 := by
      show Hp ⟨w, M, I⟩ [blk p (loC { o with pv := ⟨A2, o.pv.n + 1, c2⟩ }) 141, row 105 5 (.slice A2 (o.pv.n + 1) c2) (o.pv.n + 1) (pasC (o.ps ++ [(⟨e, false⟩ : Pa)])), blk o.sb (stoC o.S o.dv) 120, row 71 5 (.slice o.h.A o.h.es.length o.h.c) o.h.es.length (ensC o.h.es)] (loF o) w6
      rw [← pasC_snoc]
      exact Hp.keep H6
    have ok2 := takenOk ok h18 (n1 := n1) A2 c2
    refine call_rule H6 (fun M I _ h => ltell p { o with ps := o.ps ++ [(⟨e, false⟩ : Pa)], pv := ⟨A2, o.pv.n + 1, c2⟩ } ok2 _ M I h) fun a w7 ha H7 => ?_
    refine Exists.intro ⟨.none, { o with ps := o.ps ++ [(⟨e, false⟩ : Pa)], pv := ⟨A2, o.pv.n + 1, c2⟩, x := a.1, h := a.2 }⟩ (And.intro rfl (And.intro ?_ ?_))
    · unfold tkOk
      rw [hn]
      exact ⟨rfl, rfl, rfl, rfl, rfl, rfl, ⟨ok2.sto, ok2.pn, ok2.ev, ok2.few, ok2.thr, ok2.loan⟩, ha⟩
    · show Hp ⟨w, M, I⟩ (empA :: loA p { o with ps := o.ps ++ [(⟨e, false⟩ : Pa)], pv := ⟨A2, o.pv.n + 1, c2⟩, x := a.1, h := a.2 }) (loF { o with ps := o.ps ++ [(⟨e, false⟩ : Pa)], pv := ⟨A2, o.pv.n + 1, c2⟩, x := a.1, h := a.2 }) w7
      exact Hp.keep (Hp.addEmp H7)
end Go.Proofs.YtjlfjjgjghdokaaGreatDoor
set_option linter.unusedVariables false
namespace Go.Proofs.YtjlfjjgjghdokaaGreatDoor
open Go Go.Proofs Go.Wk
theorem ensC_one : ∀ (xs : List En), ∀ u ∈ ensC xs, u.oneCell' = true
  | [], u, h => by cases h
  | x :: r, u, h => by
    have h : u ∈ enC x ++ ensC r := h
    rcases List.mem_append.1 h with h | h
    · simp only [enC, List.mem_cons, List.not_mem_nil, or_false] at h
      rcases h with rfl | rfl | rfl | rfl | rfl <;> rfl
    · exact ensC_one r u h
theorem cloneEnt (h : Hd) (hn : h.es.length ≤ 100000) (w : World) (M I : BS) (H : Hp ⟨w, M, I⟩ [row 71 5 (.slice h.A h.es.length h.c) h.es.length (ensC h.es)] [] w) :
    Ctr Tryz.prog 115 [.slice h.A h.es.length h.c] w M I (fun a : SV => .slice a.A a.n a.c) (fun a => a.n = h.es.length) (fun a => [row 71 5 (.slice a.A a.n a.c) a.n (ensC h.es), row 71 5 (.slice h.A h.es.length h.c) h.es.length (ensC h.es)]) (fun _ => []) := by
  obtain ⟨A, c, es⟩ := h
  simp only at hn H ⊢
  obtain ⟨fa, ha⟩ := Hp.own (A := row 71 5 (.slice A es.length c) es.length (ensC es)) H
  rcases ha.1.2 with ⟨h1, h2⟩ | ⟨g, cap, cur, h1, _⟩
  · injection h1 with e1 e2 e3
    subst e1 e3
    have he : es = [] := List.eq_nil_of_length_eq_zero e2
    subst he
    refine Exe.of_ev tok Tryz.call115 Tryz.func115 rfl rfl rfl ?_
    have H2 : Hp ⟨w, M, I⟩ [row 71 5 (.slice none 0 0) 0 (ensC []), row 71 5 (.slice none 0 0) 0 (ensC [])] [] w := Hp.nil H 71 5
    exact Exists.intro ⟨none, 0, 0⟩ (And.intro rfl (And.intro rfl H2))
  · injection h1 with e1 e2 e3
    subst e1 e3
    refine Exe.of_ev tok Tryz.call115 Tryz.func115 rfl rfl rfl ?_
    refine slice_as tok H [] rfl rfl rfl rfl rfl rfl fun g2 w1 H1 => ?_
    have H2 : Hp ⟨w, M, I⟩ [row 71 5 (.slice (some ⟨g2, 0, none⟩) 0 0) 0 [], row 71 5 (.slice (some ⟨g, 0, none⟩) es.length c) es.length (ensC es)] [] w1 := H1.toRow 5 0 rfl (by decide)
    refine append_row (v := .slice (some ⟨g2, 0, none⟩) 0 0) (A := some ⟨g, 0, none⟩) (m := es.length) (c := c) tok H2 rfl rfl rfl rfl rfl rfl (ensC_one es) (by show (0 + es.length) * 40 ≤ _; omega) (by omega) fun A2 c2 w4 H4 => ?_
    exact Exists.intro ⟨A2, 0 + es.length, c2⟩ (And.intro rfl (And.intro (Nat.zero_add es.length) H4))
theorem sortedE (h : Hd) (hn : h.es.length ≤ 100000) (w : World) (M I : BS) (H : Hp ⟨w, M, I⟩ [row 71 5 (.slice h.A h.es.length h.c) h.es.length (ensC h.es)] [EnF h.es] w) :
    Ctr Tryz.prog 61 [.slice h.A h.es.length h.c] w M I (fun s : Hd => .slice s.A s.es.length s.c) (fun s => s.es.Perm h.es ∧ srtE s.es) (fun s => [row 71 5 (.slice s.A s.es.length s.c) s.es.length (ensC s.es), row 71 5 (.slice h.A h.es.length h.c) h.es.length (ensC h.es)]) (fun s => [EnF s.es]) := by
  refine Exe.of_ev tok Tryz.call61 Tryz.func61 rfl rfl rfl ?_
  refine call_rule H (fun M I _ hh => cloneEnt h hn _ M I hh) fun a w1 ha H1 => ?_
  have ha : a.n = h.es.length := ha
  have H2 : Hp ⟨w, M, I⟩ [row 71 5 (.slice a.A (⟨a.A, a.c, h.es⟩ : Hd).es.length a.c) (⟨a.A, a.c, h.es⟩ : Hd).es.length (ensC h.es), row 71 5 (.slice h.A h.es.length h.c) h.es.length (ensC h.es)] [EnF h.es] w1 := by
    show Hp ⟨w, M, I⟩ [row 71 5 (.slice a.A h.es.length a.c) h.es.length (ensC h.es), row 71 5 (.slice h.A h.es.length h.c) h.es.length (ensC h.es)] [EnF h.es] w1
    have e2 : row 71 5 (.slice a.A h.es.length a.c) h.es.length (ensC h.es) = row 71 5 (.slice a.A a.n a.c) a.n (ensC h.es) := by rw [ha]
    rw [e2]
    exact Hp.keep H1
  have hc : ∀ (w : World) (M I : BS), Hp ⟨w, M, I⟩ [row 71 5 (.slice a.A h.es.length a.c) h.es.length (ensC h.es)] [] w → Ctr Tryz.prog 66 [.slice a.A a.n a.c, .func (.func 116) #[] #[]] w M I (fun _ : List En => .tuple #[]) (fun l => l.Perm h.es ∧ srtE l) (fun l => [row 71 5 (.slice a.A h.es.length a.c) h.es.length (ensC l)]) (fun _ => []) := by
    rw [ha]
    exact fun w M I hh => sortHd 116 cmpGB ⟨a.A, a.c, h.es⟩ (by show h.es.length ≤ 1000000; omega) w M I hh
  refine call_rule H2 (fun M I _ hh => hc _ M I hh) fun es w2 hes H3 => ?_
  have e1 : h.es.length = es.length := hes.1.length_eq.symm
  have H4 : Hp ⟨w, M, I⟩ [row 71 5 (.slice a.A es.length a.c) es.length (ensC es), row 71 5 (.slice h.A h.es.length h.c) h.es.length (ensC h.es)] [EnF es] w2 := by
    have H5 : Hp ⟨w, M, I⟩ [row 71 5 (.slice a.A h.es.length a.c) h.es.length (ensC es), row 71 5 (.slice h.A h.es.length h.c) h.es.length (ensC h.es)] [EnF h.es] w2 := Hp.keep H3
    have H6 := enF_perm hes.1 H5
    have e2 : (row 71 5 (.slice a.A es.length a.c) es.length (ensC es)) = row 71 5 (.slice a.A h.es.length a.c) h.es.length (ensC es) := by rw [e1]
    rw [e2]
    exact H6
  refine Exists.intro ⟨a.A, a.c, es⟩ (And.intro ?_ (And.intro hes H4))
  show Value.slice a.A a.n a.c = .slice a.A es.length a.c
  rw [ha, e1]
end Go.Proofs.YtjlfjjgjghdokaaGreatDoor
set_option linter.unusedVariables false
namespace Go.Proofs.YtjlfjjgjghdokaaGreatDoor
open Go Go.Proofs Go.Wk
def wantL (es : List En) : List (Key × En) := es.map fun x => (x.k, x)
theorem wantL_snoc (es : List En) (x : En) : wantL (es ++ [x]) = wantL es ++ [(x.k, x)] := by unfold wantL; rw [List.map_append]; rfl
theorem want_new {es : List En} {x : En} (h : (((es ++ [x]).map kl).map Prod.fst).Nodup) : lkI x.k (wantL es) 0 = none := by
  have hn : x.k ∉ (es.map kl).map Prod.fst := by
    rw [List.map_append, List.map_append] at h
    intro hm
    exact (List.nodup_append.1 h).2.2 _ hm x.k (by simp [kl]) rfl
  have gen : ∀ (l : List En) (i : Nat), x.k ∉ (l.map kl).map Prod.fst → lkI x.k (wantL l) i = none := by
    intro l
    induction l with
    | nil => intro i _; rfl
    | cons p r ih =>
      intro i hm
      rw [List.map_cons, List.map_cons, List.mem_cons, not_or] at hm
      show (if p.k = x.k then _ else lkI x.k (wantL r) (i + 1)) = none
      rw [if_neg (fun e => hm.1 e.symm)]
      exact ih (i + 1) hm.2
  exact gen es 0 hn
theorem want_lk {k : Key} : ∀ {es : List En}, lk k (wantL es) = none → ∀ ls, (k, ls) ∉ es.map kl
  | [], _, ls, hm => by cases hm
  | x :: r, h, ls, hm => by
    have h : (if x.k = k then some x else lk k (wantL r)) = none := h
    split at h
    · cases h
    · rename_i hne
      rw [List.map_cons] at hm
      rcases List.mem_cons.1 hm with e | hm
      · exact hne (congrArg Prod.fst e).symm
      · exact want_lk h ls hm
theorem want_some {k : Key} : ∀ {es : List En} {x : En}, lk k (wantL es) = some x → x ∈ es ∧ x.k = k
  | y :: r, x, h => by
    have h : (if y.k = k then some y else lk k (wantL r)) = some x := h
    split at h
    · rename_i e
      have e2 := Option.some.inj h
      rw [← e2]
      exact ⟨List.mem_cons_self, e⟩
    · obtain ⟨h1, h2⟩ := want_some h
      exact ⟨List.mem_cons_of_mem _ h1, h2⟩
/-- Alike: just if it is among the story's. -/
theorem same_in {E : List En} (hnd : ((E.map kl).map Prod.fst).Nodup) {x u : En} (hx : x ∈ E) (hk : x.k = u.k) : sameB x.k u.k x.ls u.ls = true ↔ kl u ∈ E.map kl := by
  unfold sameB
  rw [eqK_iff.2 hk, Bool.true_and, legsEq_iff]
  constructor
  · intro e
    have : kl x = kl u := by unfold kl; rw [hk, e]
    rw [← this]
    exact List.mem_map_of_mem hx
  · intro hm
    have := key_eq hnd (List.mem_map_of_mem (f := kl) hx) hm hk
    exact congrArg Prod.snd this
theorem en_in {w : World} {B : Base} {S : List Asn} {F : List Fact} (H : Hp B S F w) (es : List En) [hp : InF F (EnF es)] {x : En} (h : x ∈ es) : Hp B S (Sl legR (.slice x.s.A x.s.n x.s.c) x.ls :: F) w := H.facts fun I ha f hf => by
  rcases List.mem_cons.1 hf with rfl | hf
  · exact ha (EnF es) hp.mem x h
  · exact ha f hf
structure EOk (loan : Int) (E : List (Key × List Leg)) : Prop where
  ek : EK loan E
  right : ∀ e, e ∈ E → rightB e.1 e.2 = true
  kin : ∀ e, e ∈ E → keyIn e.1
  sml : ∀ e, e ∈ E → ∀ g, g ∈ e.2 → Go.Proofs.YtjlfjjgjghdokaaGreatDoor.sml g.amt
theorem takeS {α : Type} {l : List α} {i : Nat} {x : α} (h : l[i]? = some x) : l.take (i + 1) = l.take i ++ [x] := by
  obtain ⟨hi, e⟩ := List.getElem?_eq_some_iff.1 h
  rw [List.take_succ_eq_append_getElem hi, e]
theorem split_at {α : Type} {l : List α} {i : Nat} {x : α} (h : l[i]? = some x) : l = l.take i ++ x :: l.drop (i + 1) := by
  obtain ⟨hi, e⟩ := List.getElem?_eq_some_iff.1 h
  rw [← e, List.getElem_cons_drop, List.take_append_drop]
theorem srtK_of {es : List En} (h : srtE es) : srtK (es.map kl) := List.pairwise_map.2 h
structure SS where
  i : Nat
  d : Led
set_option maxHeartbeats 8000000 in
set_option maxRecDepth 20000 in
theorem sync (p : Nat) (o : Lo) (l : Nat) (d0 : Led) (hI : Inv d0) (hd : d0.lns.length ≤ 40000) (X Y : Int) (hb : LB d0 X) (hY : ∀ a, absE a (o.h.es.map kl) ≤ Y) (hXY : X + Y ≤ 8000000000000000000) (hlo : inK .u32 o.S.loan) (hE : EOk o.S.loan (o.h.es.map kl)) (h12 : o.h.es.length ≤ 10000) (w : World) (M I : BS)
    (H : Hp ⟨w, M, I⟩ [blk p (loC o) 141, row 71 5 (.slice o.h.A o.h.es.length o.h.c) o.h.es.length (ensC o.h.es), ledO l d0] [EnF o.h.es, LnF d0.lns] w) :
    Ctr Tryz.prog 31 [.pointer (some ⟨p, 0, none⟩), .pointer (some ⟨l, 0, none⟩)] w M I (fun _ : Led => .nilIface) (fun d => SyncR d0 o.S.loan (o.h.es.map kl) d) (fun d => [blk p (loC o) 141, row 71 5 (.slice o.h.A o.h.es.length o.h.c) o.h.es.length (ensC o.h.es), ledO l d]) (fun d => [LnF d.lns, EnF o.h.es]) := by
  have hX : X ≤ 8000000000000000000 := by
    have h1 := hY 1
    have h2 := absE_pos 1 (o.h.es.map kl)
    omega
  have hll : (liveOf o.S.loan d0).length ≤ 40000 := by
    have h1 : (liveOf o.S.loan d0).length ≤ d0.live.length := by
      unfold liveOf liveOn
      exact Nat.le_trans (List.length_filterMap_le _ _) (List.length_filter_le _ _)
    have h2 := hI.cnt
    omega
  refine Exe.of_ev tok Tryz.call31 Tryz.func31 rfl rfl rfl ?_
  refine makeMap_rule H keyV enV fun mp w1 H1 => ?_
  have H1 : Hp ⟨w, M, I⟩ [mapO mp keyV enV (wantL (o.h.es.take 0)), row 71 5 (.slice o.h.A o.h.es.length o.h.c) o.h.es.length (ensC o.h.es), blk p (loC o) 141, ledO l d0] [EnF o.h.es, LnF d0.lns] w1 := by
    have e0 : wantL (o.h.es.take 0) = [] := by rw [List.take_zero]; rfl
    rw [e0]
    exact Hp.keep H1
  refine load_rule tok H1 (v := .slice o.h.A o.h.es.length o.h.c) rfl ?_
  refine loop_out tok (σ := Nat) (τ := Unit) 8778913153152 1 (fun i => [(34, .int .i64 (i : Int))]) (fun i w' => i ≤ o.h.es.length ∧ Hp ⟨w, M, I⟩ [mapO mp keyV enV (wantL (o.h.es.take i)), row 71 5 (.slice o.h.A o.h.es.length o.h.c) o.h.es.length (ensC o.h.es), blk p (loC o) 141, ledO l d0] [EnF o.h.es, LnF d0.lns] w') (fun i => o.h.es.length - i) 0
    (fun _ => []) (fun _ w' => Hp ⟨w, M, I⟩ [mapO mp keyV enV (wantL o.h.es), row 71 5 (.slice o.h.A o.h.es.length o.h.c) o.h.es.length (ensC o.h.es), blk p (loC o) 141, ledO l d0] [EnF o.h.es, LnF d0.lns] w') rfl rfl ⟨rfl, trivial⟩ ⟨Nat.zero_le _, H1⟩ ?_ ?_
  · intro i j w2 hW
    have hi := hW.1
    have H2 := hW.2
    refine brd (fun q2 => ?_) (fun q2 => ?_)
    · have hil : i < o.h.es.length := Int.ofNat_lt.1 q2
      have ew : IntKind.i64.wrap ((i : Int) + 1) = ((i + 1 : Nat) : Int) := w64 (by omega) (by omega)
      refine Exists.elim (show ∃ u, o.h.es[i]? = some u from ⟨_, List.getElem?_eq_getElem hil⟩) fun u hu => ?_
      have ht := takeS hu
      have hnd : (((o.h.es.take i ++ [u]).map kl).map Prod.fst).Nodup := by
        rw [← ht, List.map_take, List.map_take]
        exact hE.ek.nd.sublist (List.take_sublist _ _)
      have hnew := want_new hnd
      have eput : putL u.k u (wantL (o.h.es.take i)) = wantL (o.h.es.take (i + 1)) := by rw [putL_none _ _ _ 0 hnew, ht, wantL_snoc]
      refine Exists.elim (row_at (A := o.h.A) (n := o.h.es.length) (c := o.h.c) H2 (by omega)) fun g hA => ?_
      refine idx_ownA tok hA rfl rfl (Int.natCast_nonneg i) q2 ?_
      refine row_ldA (A := o.h.A) (n := o.h.es.length) (c := o.h.c) tok H2 (enV u) hA (ens_get hu) ?_
      refine alloc_as tok H2 [.int .u32 0, .int .i32 0, .int .u8 0, .int .u32 0, .slice none 0 0] rfl rfl rfl fun y w3 H3 => ?_
      refine store_as tok H3 (enC u) rfl rfl rfl rfl rfl fun w4 H4 => ?_
      refine load_rule tok H4 (v := keyV u.k) rfl ?_
      refine load_rule tok H4 (v := enV u) rfl ?_
      refine mapUpd_rule (n := mp) (kf := keyV) (vf := enV) (l := wantL (o.h.es.take i)) (k := u.k) (v := u) tok H4 rfl keyKeys rfl rfl fun w5 H5 => ?_
      rw [eput] at H5
      refine Exists.intro (i + 1) (And.intro ⟨congrArg (Value.int .i64) ew, trivial⟩ (And.intro ?_ ⟨?_, Hp.keep H5⟩))
      · show o.h.es.length - (i + 1) < o.h.es.length - i
        omega
      · omega
    · have hie : i = o.h.es.length := by
        have q2 : ¬ (i : Int) < (o.h.es.length : Int) := q2
        omega
      have hall : o.h.es.take i = o.h.es := by rw [hie]; exact List.take_length
      rw [hall] at H2
      exact Exists.intro () (And.intro trivial (Hp.keep H2))
  intro _ j1 w2 H2
  refine load_rule tok H2 (v := .int .u32 o.S.loan) rfl ?_
  refine call_rule H2 (fun M I _ h => loanGood l d0 hI (by omega) o.S.loan _ M I h) fun hv w3 hhv H3 => ?_
  have hHl : hv.es.length ≤ 40000 := by
    have e := hhv.1.length_eq
    rw [List.length_map] at e
    omega
  have hHp : (hv.es.map kl).Perm (liveOf o.S.loan d0) := hhv.1
  have H3 : Hp ⟨w, M, I⟩ [mapO mp keyV enV (wantL o.h.es), row 71 5 (.slice o.h.A o.h.es.length o.h.c) o.h.es.length (ensC o.h.es), row 71 5 (.slice hv.A hv.es.length hv.c) hv.es.length (ensC hv.es), blk p (loC o) 141, ledO l d0] [EnF hv.es, EnF o.h.es, LnF d0.lns] w3 := Hp.keep H3
  refine loop_out tok (σ := SS) (τ := Led) 37778930737057254874640 3 (fun s => [(50, .int .i64 (s.i : Int))]) (fun s w' => s.i ≤ hv.es.length ∧ St1 d0 ((hv.es.map kl).take s.i) (o.h.es.map kl) s.d ∧ Hp ⟨w, M, I⟩ [mapO mp keyV enV (wantL o.h.es), row 71 5 (.slice o.h.A o.h.es.length o.h.c) o.h.es.length (ensC o.h.es), row 71 5 (.slice hv.A hv.es.length hv.c) hv.es.length (ensC hv.es), blk p (loC o) 141, ledO l s.d] [EnF hv.es, EnF o.h.es, LnF s.d.lns] w') (fun s => hv.es.length - s.i) ⟨0, d0⟩
    (fun _ => []) (fun d w' => St1 d0 (hv.es.map kl) (o.h.es.map kl) d ∧ Hp ⟨w, M, I⟩ [mapO mp keyV enV (wantL o.h.es), row 71 5 (.slice o.h.A o.h.es.length o.h.c) o.h.es.length (ensC o.h.es), row 71 5 (.slice hv.A hv.es.length hv.c) hv.es.length (ensC hv.es), blk p (loC o) 141, ledO l d] [EnF hv.es, EnF o.h.es, LnF d.lns] w') rfl rfl ⟨rfl, trivial⟩ ⟨Nat.zero_le _, st1_nil hI hb.bal hb.legs, H3⟩ ?_ ?_
  · intro s j w4 hW
    have hi := hW.1
    have hS := hW.2.1
    have H4 := hW.2.2
    have hsl : (sans ((hv.es.map kl).take s.i) (o.h.es.map kl)).length ≤ 40000 := by
      refine Nat.le_trans (List.length_filter_le _ _) ?_
      rw [List.length_take, List.length_map]
      omega
    have hdl : s.d.lns.length ≤ 100000 := by
      have := hS.len
      omega
    refine brd (fun q2 => ?_) (fun q2 => ?_)
    · have hil : s.i < hv.es.length := Int.ofNat_lt.1 q2
      have ew : IntKind.i64.wrap ((s.i : Int) + 1) = ((s.i + 1 : Nat) : Int) := w64 (by omega) (by omega)
      refine Exists.elim (show ∃ u, hv.es[s.i]? = some u from ⟨_, List.getElem?_eq_getElem hil⟩) fun u hu => ?_
      have hku : (hv.es.map kl)[s.i]? = some (kl u) := by rw [List.getElem?_map, hu]; rfl
      have ht := takeS hku
      have hsp := split_at hku
      have hlv : lv s.d u.k = some u.ls := st1_at hI hHp hsp hS
      refine Exists.elim (row_at (A := hv.A) (n := hv.es.length) (c := hv.c) H4 (by omega)) fun g hA => ?_
      have H4b := hpEn H4 hv.es hu
      have hnu := H4b.sll (A := u.s.A) (n := u.s.n) (c := u.s.c) (r := legR) (xs := u.ls)
      refine idx_ownA tok hA rfl rfl (Int.natCast_nonneg s.i) q2 ?_
      refine row_ldA (A := hv.A) (n := hv.es.length) (c := hv.c) tok H4b (enV u) hA (ens_get hu) ?_
      refine alloc_as tok H4b [.int .u32 0, .int .i32 0, .int .u8 0, .int .u32 0, .slice none 0 0] rfl rfl rfl fun y w5 H5 => ?_
      refine store_as tok H5 (enC u) rfl rfl rfl rfl rfl fun w6 H6 => ?_
      refine load_rule tok H6 (v := keyV u.k) rfl ?_
      refine Exists.elim (lv_some hS.inv hlv) fun ix hix => Exists.elim hix fun lx hlx => ?_
      have hkin : keyIn u.k := by
        have := (hS.inv.ok lx (List.mem_of_getElem? hlx.2.2.1)).2.1
        rw [hlx.2.2.2.1] at this
        exact this
      have hlb := St1.lb hI hS hb.abs
      refine (Option.eq_none_or_eq_some (lk u.k (wantL o.h.es))).elim (fun hno => ?_) (fun hsome => ?_)
      · have hnot : kl u ∉ o.h.es.map kl := want_lk hno u.ls
        refine lookup_ok_rule (n := mp) (kf := keyV) (vf := enV) (l := wantL o.h.es) (k := u.k) (v := .tuple #[.agg #[.int .u32 0, .int .i32 0, .int .u8 0, .int .u32 0, .slice none 0 0], .bool false]) tok H6 rfl rfl rfl keyKeys rfl (by rw [hno]; rfl) ?_
        refine alloc_as tok H6 [.int .u32 0, .int .i32 0, .int .u8 0, .int .u32 0, .slice none 0 0] rfl rfl rfl fun y2 w7 H7 => ?_
        refine store_as tok H7 [.int .u32 0, .int .i32 0, .int .u8 0, .int .u32 0, .slice none 0 0] rfl rfl rfl rfl rfl fun w7b H7b => ?_
        refine load_rule tok H7b (v := keyV u.k) rfl ?_
        refine call_rule H7b (fun M I _ h => revGood l s.d hS.inv hdl _ hlb hX u.k hkin ix hlx.1 _ M I h) fun d' w8 hr H8 => ?_
        have hst := St1.rev (h := kl u) hI hS hnot hlx.1 hlv hr
        refine Exists.intro ⟨s.i + 1, d'⟩ (And.intro ⟨congrArg (Value.int .i64) ew, trivial⟩ (And.intro ?_ ⟨?_, ?_, Hp.keep H8⟩))
        · show hv.es.length - (s.i + 1) < hv.es.length - s.i
          omega
        · show s.i + 1 ≤ hv.es.length
          omega
        · show St1 d0 ((hv.es.map kl).take (s.i + 1)) (o.h.es.map kl) d'
          rw [ht]
          exact hst
      · refine Exists.elim hsome fun x hx => ?_
        have hxx := want_some hx
        have hiff := same_in hE.ek.nd hxx.1 hxx.2
        have H6b := en_in H6 o.h.es hxx.1
        have hnx := H6b.sll (A := x.s.A) (n := x.s.n) (c := x.s.c) (r := legR) (xs := x.ls)
        have hxl : x.ls.length ≤ 9223372036854775807 := Nat.le_trans hnx.2.1 hnx.2.2
        refine lookup_ok_rule (n := mp) (kf := keyV) (vf := enV) (l := wantL o.h.es) (k := u.k) (v := .tuple #[enV x, .bool true]) tok H6b rfl rfl rfl keyKeys rfl (by rw [hx]; rfl) ?_
        refine alloc_as tok H6b [.int .u32 0, .int .i32 0, .int .u8 0, .int .u32 0, .slice none 0 0] rfl rfl rfl fun y2 w7 H7 => ?_
        refine store_as tok H7 (enC x) rfl rfl rfl rfl rfl fun w7b H7b => ?_
        refine load_rule tok H7b (v := enV x) rfl ?_
        refine load_rule tok H7b (v := enV u) rfl ?_
        refine call_rule H7b (fun M I _ h => same_ x.k u.k x.s.A u.s.A x.s.n x.s.c u.s.n u.s.c x.ls u.ls _ M I h ⟨hnx.1, hxl⟩ hnu.1) fun _ w8 _ H8 => ?_
        refine br (fun q3 => ?_) (fun q3 => ?_)
        · have hin := hiff.1 q3
          refine Exists.intro ⟨s.i + 1, s.d⟩ (And.intro ⟨congrArg (Value.int .i64) ew, trivial⟩ (And.intro ?_ ⟨?_, ?_, Hp.keep H8⟩))
          · show hv.es.length - (s.i + 1) < hv.es.length - s.i
            omega
          · show s.i + 1 ≤ hv.es.length
            omega
          · show St1 d0 ((hv.es.map kl).take (s.i + 1)) (o.h.es.map kl) s.d
            rw [ht]
            exact St1.keep hS hin
        · have hnot : kl u ∉ o.h.es.map kl := fun hm => by
            have q4 := hiff.2 hm
            rw [q3] at q4
            cases q4
          refine load_rule tok H8 (v := keyV u.k) rfl ?_
          refine call_rule H8 (fun M I _ h => revGood l s.d hS.inv hdl _ hlb hX u.k hkin ix hlx.1 _ M I h) fun d' w8 hr H8 => ?_
          have hst := St1.rev (h := kl u) hI hS hnot hlx.1 hlv hr
          refine Exists.intro ⟨s.i + 1, d'⟩ (And.intro ⟨congrArg (Value.int .i64) ew, trivial⟩ (And.intro ?_ ⟨?_, ?_, Hp.keep H8⟩))
          · show hv.es.length - (s.i + 1) < hv.es.length - s.i
            omega
          · show s.i + 1 ≤ hv.es.length
            omega
          · show St1 d0 ((hv.es.map kl).take (s.i + 1)) (o.h.es.map kl) d'
            rw [ht]
            exact hst
    · have hie : s.i = (hv.es.map kl).length := by
        have q2 : ¬ (s.i : Int) < (hv.es.length : Int) := q2
        rw [List.length_map]
        omega
      have hall : (hv.es.map kl).take s.i = hv.es.map kl := by rw [hie]; exact List.take_length
      rw [hall] at hS
      exact Exists.intro s.d (And.intro trivial ⟨hS, Hp.keep H4⟩)
  intro d1 j3 w4 hW4
  have hS1 := hW4.1
  have H4 := hW4.2
  have hs1l : (sans (hv.es.map kl) (o.h.es.map kl)).length ≤ 40000 := by
    refine Nat.le_trans (List.length_filter_le _ _) ?_
    rw [List.length_map]
    exact hHl
  have hd1l : d1.lns.length ≤ 80000 := by
    have := hS1.len
    omega
  refine load_rule tok H4 (v := .slice o.h.A o.h.es.length o.h.c) rfl ?_
  refine call_rule H4 (fun M I _ h => sortedE o.h (by omega) _ M I h) fun sv w5 hsv H5 => ?_
  have hSp : (sv.es.map kl).Perm (o.h.es.map kl) := hsv.1.map kl
  have hsl12 : sv.es.length ≤ 10000 := by
    have := hsv.1.length_eq
    omega
  have H5 : Hp ⟨w, M, I⟩ [row 71 5 (.slice o.h.A o.h.es.length o.h.c) o.h.es.length (ensC o.h.es), row 71 5 (.slice sv.A sv.es.length sv.c) sv.es.length (ensC sv.es), blk p (loC o) 141, ledO l d1] [EnF sv.es, EnF o.h.es, LnF d1.lns] w5 := Hp.keep H5
  refine loop_rule tok (σ := SS) 1298074212215855267903365733138448 (fun s => [(81, .int .i64 (s.i : Int))]) (fun s w' => s.i ≤ sv.es.length ∧ St2 d1 (hv.es.map kl) ((sv.es.map kl).take s.i) (o.h.es.map kl) s.d ∧ Hp ⟨w, M, I⟩ [row 71 5 (.slice o.h.A o.h.es.length o.h.c) o.h.es.length (ensC o.h.es), row 71 5 (.slice sv.A sv.es.length sv.c) sv.es.length (ensC sv.es), blk p (loC o) 141, ledO l s.d] [EnF sv.es, EnF o.h.es, LnF s.d.lns] w') (fun s => sv.es.length - s.i) ⟨0, d1⟩ rfl rfl ⟨rfl, trivial⟩ ⟨Nat.zero_le _, st2_nil hS1.inv hS1.bal hS1.legs, H5⟩ ?_
  intro s j w6 hW
  have hi := hW.1
  have hS := hW.2.1
  have H6 := hW.2.2
  have hsl : (sans ((sv.es.map kl).take s.i) (hv.es.map kl)).length ≤ 10000 := by
    refine Nat.le_trans (List.length_filter_le _ _) ?_
    rw [List.length_take, List.length_map]
    omega
  have hdl : s.d.lns.length ≤ 99000 := by
    have := hS.len
    omega
  refine brd (fun q2 => ?_) (fun q2 => ?_)
  · have hil : s.i < sv.es.length := Int.ofNat_lt.1 q2
    have ew : IntKind.i64.wrap ((s.i : Int) + 1) = ((s.i + 1 : Nat) : Int) := w64 (by omega) (by omega)
    refine Exists.elim (show ∃ u, sv.es[s.i]? = some u from ⟨_, List.getElem?_eq_getElem hil⟩) fun u hu => ?_
    have hku : (sv.es.map kl)[s.i]? = some (kl u) := by rw [List.getElem?_map, hu]; rfl
    have ht := takeS hku
    have hsp := split_at hku
    have hpp : ((sv.es.map kl).take s.i ++ kl u :: (sv.es.map kl).drop (s.i + 1)).Perm (o.h.es.map kl) := by rw [← hsp]; exact hSp
    have huE : kl u ∈ o.h.es.map kl := hpp.mem_iff.1 (by simp)
    have hkin : keyIn u.k := hE.kin _ huE
    have hri : rightB u.k u.ls = true := hE.right _ huE
    have hsm : ∀ g, g ∈ u.ls → sml g.amt := hE.sml _ huE
    have hlb := St2.lb hI hS1 hS hb.abs hY
    refine Exists.elim (row_at (A := sv.A) (n := sv.es.length) (c := sv.c) H6 (by omega)) fun g hA => ?_
    have H6b := hpEn H6 sv.es hu
    have hnu := H6b.sll (A := u.s.A) (n := u.s.n) (c := u.s.c) (r := legR) (xs := u.ls)
    refine idx_ownA tok hA rfl rfl (Int.natCast_nonneg s.i) q2 ?_
    refine row_ldA (A := sv.A) (n := sv.es.length) (c := sv.c) tok H6b (enV u) hA (ens_get hu) ?_
    refine alloc_as tok H6b [.int .u32 0, .int .i32 0, .int .u8 0, .int .u32 0, .slice none 0 0] rfl rfl rfl fun y w7 H7 => ?_
    refine store_as tok H7 (enC u) rfl rfl rfl rfl rfl fun w8 H8 => ?_
    refine load_rule tok H8 (v := enV u) rfl ?_
    refine (Classical.em (kl u ∈ hv.es.map kl)).elim (fun hin => ?_) (fun hout => ?_)
    · have hlv : lv s.d u.k = some u.ls := st2_in hI hHp hE.ek hS1 hpp hS hin
      refine Exists.elim (lv_some hS.inv hlv) fun ix hix => Exists.elim hix fun lx hlx => ?_
      have hx0 := hlx.2.1
      have hi1 : lk u.k s.d.live = some ((ix.toNat : Nat) : Int) := by rw [Int.toNat_of_nonneg hx0]; exact hlx.1
      have hsame : sameB lx.k u.k lx.ls u.ls = true := by rw [hlx.2.2.2.1, hlx.2.2.2.2]; exact sameSelf _ _
      refine call_rule H8 (fun M I _ h => postTwice l s.d hS.inv (by omega) u.k hkin (by rw [hlx.1]; rfl) u.s.A u.s.n u.s.c u.ls hri _ M I h) fun f w9 _ H9 => ?_
      refine load_rule tok H9 (v := keyV u.k) rfl ?_
      refine call_rule H9 (fun M I _ h => liveGood l s.d hS.inv (by omega) u.k ix.toNat lx hi1 hlx.2.2.1 _ M I h) fun a w10 _ H10 => ?_
      have hna := H10.sll (A := a.A) (n := a.n) (c := a.c) (r := legR) (xs := lx.ls)
      have hal : lx.ls.length ≤ 9223372036854775807 := Nat.le_trans hna.2.1 hna.2.2
      refine alloc_as tok H10 [.int .u32 0, .int .i32 0, .int .u8 0, .int .u32 0, .slice none 0 0] rfl rfl rfl fun y2 w11 H11 => ?_
      refine store_as tok H11 [.int .u32 lx.k.loan, .int .i32 lx.k.day, .int .u8 lx.k.kind, .int .u32 lx.k.seq, .slice a.A a.n a.c] rfl rfl rfl rfl rfl fun w12 H12 => ?_
      refine call_rule H12 (fun M I _ h => isTwice f u.k.loan _ M I h) fun _ w13 _ H13 => ?_
      refine load_rule tok H13 (v := .agg #[.int .u32 lx.k.loan, .int .i32 lx.k.day, .int .u8 lx.k.kind, .int .u32 lx.k.seq, .slice a.A a.n a.c]) rfl ?_
      refine load_rule tok H13 (v := enV u) rfl ?_
      refine call_rule H13 (fun M I _ h => same_ lx.k u.k a.A u.s.A a.n a.c u.s.n u.s.c lx.ls u.ls _ M I h ⟨hna.1, hal⟩ hnu.1) fun _ w14 _ H14 => ?_
      refine br (fun _ => ?_) (fun q3 => absurd (hsame.symm.trans q3) (by decide))
      refine Exists.intro ⟨s.i + 1, s.d⟩ (And.intro ⟨congrArg (Value.int .i64) ew, trivial⟩ (And.intro ?_ ⟨?_, ?_, Hp.keep H14⟩))
      · show sv.es.length - (s.i + 1) < sv.es.length - s.i
        omega
      · show s.i + 1 ≤ sv.es.length
        omega
      · show St2 d1 (hv.es.map kl) ((sv.es.map kl).take (s.i + 1)) (o.h.es.map kl) s.d
        rw [ht]
        exact St2.keep hS hin
    · have hlv : lv s.d u.k = none := st2_out hI hHp hE.ek hS1 hpp hS hout
      have hno := (lv_none hS.inv).1 hlv
      refine call_rule H8 (fun M I _ h => postNew l s.d hS.inv (by omega) _ hlb hXY u.k hkin hno u.s.A u.s.n u.s.c u.ls hri hsm _ M I h) fun d' w9 hpr H9 => ?_
      have hst := St2.post (h := kl u) hS hout (lkE hE.ek.nd huE) hno hpr
      refine Exists.elim hpr.lns fun sw hsw => ?_
      have hl1 : lk u.k d'.live = some ((s.d.lns.length : Nat) : Int) := by rw [hpr.live, lk_put_eq]
      have hl2 : d'.lns[s.d.lns.length]? = some ⟨u.k, sw, 0, u.ls⟩ := by
        rw [hsw, List.getElem?_append_right (Nat.le_refl _), Nat.sub_self]
        rfl
      have hdl2 : d'.lns.length ≤ 100000 := by
        rw [hsw, List.length_append]
        show s.d.lns.length + 1 ≤ 100000
        omega
      refine load_rule tok H9 (v := keyV u.k) rfl ?_
      refine call_rule H9 (fun M I _ h => liveGood l d' hpr.inv hdl2 u.k s.d.lns.length ⟨u.k, sw, 0, u.ls⟩ hl1 hl2 _ M I h) fun a w10 _ H10 => ?_
      refine alloc_as tok H10 [.int .u32 0, .int .i32 0, .int .u8 0, .int .u32 0, .slice none 0 0] rfl rfl rfl fun y2 w11 H11 => ?_
      refine store_as tok H11 [.int .u32 u.k.loan, .int .i32 u.k.day, .int .u8 u.k.kind, .int .u32 u.k.seq, .slice a.A a.n a.c] rfl rfl rfl rfl rfl fun w12 H12 => ?_
      refine call_rule H12 (fun M I _ h => isNo _ M I h) fun _ w13 _ H13 => ?_
      refine Exists.intro ⟨s.i + 1, d'⟩ (And.intro ⟨congrArg (Value.int .i64) ew, trivial⟩ (And.intro ?_ ⟨?_, ?_, Hp.keep H13⟩))
      · show sv.es.length - (s.i + 1) < sv.es.length - s.i
        omega
      · show s.i + 1 ≤ sv.es.length
        omega
      · show St2 d1 (hv.es.map kl) ((sv.es.map kl).take (s.i + 1)) (o.h.es.map kl) d'
        rw [ht]
        exact hst
  · have hie : s.i = (sv.es.map kl).length := by
      have q2 : ¬ (s.i : Int) < (sv.es.length : Int) := q2
      rw [List.length_map]
      omega
    have hall : (sv.es.map kl).take s.i = sv.es.map kl := by rw [hie]; exact List.take_length
    rw [hall] at hS
    exact Exists.intro s.d (And.intro rfl (And.intro (sync_end hI hHp hE.ek hSp (srtK_of hhv.2) (srtK_of hsv.2) hS1 hS) (Hp.keep H6)))
end Go.Proofs.YtjlfjjgjghdokaaGreatDoor
set_option linter.unusedVariables false
namespace Go.Proofs.YtjlfjjgjghdokaaGreatDoor
open Go Go.Proofs Go.Wk
/-- A key of a loan's story. -/
structure KyOk (S : Sto) (D : Int) (k : Key) : Prop where
  loan : k.loan = S.loan
  day : S.t.start ≤ k.day ∧ k.day < D
  kind : 1 ≤ k.kind ∧ k.kind ≤ 7
  seq : inK .u32 k.seq
theorem KyOk.mono {S : Sto} {D D' : Int} {k : Key} (h : KyOk S D k) (hd : D ≤ D') : KyOk S D' k := ⟨h.loan, ⟨h.day.1, by have := h.day.2; omega⟩, h.kind, h.seq⟩
theorem eat_keys {S : Sto} {day : Int} : ∀ (l : List Ev) (x : St) (e : Key × List Leg), e ∈ (eatF S day l x).2.2 → ∃ v, v ∈ l ∧ e.1 = ⟨S.loan, day, v.kind, v.seq⟩
  | [], x, e, h => by cases h
  | v :: r, x, e, h => by
    unfold eatF at h
    split at h
    · split at h
      · rcases List.mem_append.1 h with h | h
        · cases ho : (eventF x v).2 with
          | none => rw [ho] at h; cases h
          | some ls =>
            rw [ho] at h
            have h : e ∈ [((⟨S.loan, day, v.kind, v.seq⟩ : Key), refMade ls)] := h
            rw [List.mem_singleton] at h
            exact ⟨v, List.mem_cons_self, by rw [h]⟩
        · obtain ⟨u, h1, h2⟩ := eat_keys r _ e h
          exact ⟨u, List.mem_cons_of_mem _ h1, h2⟩
      · obtain ⟨u, h1, h2⟩ := eat_keys r _ e h
        exact ⟨u, List.mem_cons_of_mem _ h1, h2⟩
    · cases h
theorem eat_sub {S : Sto} {day : Int} : ∀ (l : List Ev) (x : St) (v : Ev), v ∈ (eatF S day l x).2.1 → v ∈ l
  | [], x, v, h => by cases h
  | u :: r, x, v, h => by
    unfold eatF at h
    split at h
    · split at h
      · exact List.mem_cons_of_mem _ (eat_sub r _ v h)
      · exact List.mem_cons_of_mem _ (eat_sub r _ v h)
    · exact h
theorem eat_cnt {S : Sto} {day : Int} : ∀ (l : List Ev) (x : St), (eatF S day l x).2.2.length + (eatF S day l x).2.1.length ≤ l.length
  | [], x => Nat.le_refl _
  | u :: r, x => by
    unfold eatF
    split
    · split
      · have ih := eat_cnt (S := S) (day := day) r (eventF x u).1
        have h1 := ent_len S day u (eventF x u).2
        show (entOf S day u (eventF x u).2 ++ (eatF S day r (eventF x u).1).2.2).length + (eatF S day r (eventF x u).1).2.1.length ≤ _
        rw [List.length_append, List.length_cons]
        omega
      · have ih := eat_cnt (S := S) (day := day) r x
        show (eatF S day r x).2.2.length + (eatF S day r x).2.1.length ≤ _
        rw [List.length_cons]
        omega
    · show 0 + (u :: r).length ≤ _
      omega
theorem late_keys {t : Tm} {loan day paid : Int} : ∀ (ds : List (Int × Int)) (i : Nat) (f : Int) (e : Key × List Leg), e ∈ (lateGo t loan day paid ds i f).2.2 → ∃ j, i ≤ j ∧ j < i + ds.length ∧ e.1 = ⟨loan, day, 3, (j : Int) + 1⟩
  | [], i, f, e, h => by cases h
  | d :: r, i, f, e, h => by
    by_cases q1 : d.1 + t.grace ≤ day
    · by_cases q2 : paid < d.2 ∧ 0 < t.fee
      · rw [lateGo_yes q1 q2] at h
        rcases List.mem_append.1 h with h | h
        · rw [List.mem_singleton] at h
          exact ⟨i, Nat.le_refl _, by rw [List.length_cons]; omega, by rw [h]⟩
        · obtain ⟨j, h1, h2, h3⟩ := late_keys r _ _ e h
          exact ⟨j, by omega, by rw [List.length_cons]; omega, h3⟩
      · rw [lateGo_no q1 q2] at h
        obtain ⟨j, h1, h2, h3⟩ := late_keys r _ _ e h
        exact ⟨j, by omega, by rw [List.length_cons]; omega, h3⟩
    · rw [lateGo_stop q1] at h
      cases h
theorem of_pair {a b n c : Int} {m : Int} (h : -m ≤ n ∧ n ≤ m) (hm : 0 ≤ m) : iabs (ofV c [⟨a, n⟩, ⟨b, -n⟩]) ≤ m := by
  simp only [ofV]
  split
  · exact iabs_le h.1 h.2
  · split
    · exact iabs_le (by omega) (by omega)
    · exact iabs_le (by omega) hm
theorem late_abs {t : Tm} {loan day paid : Int} (hf : 0 ≤ t.fee ∧ t.fee ≤ 1000000000) (a : Int) : ∀ (ds : List (Int × Int)) (i : Nat) (f : Int), absE a (lateGo t loan day paid ds i f).2.2 ≤ 1000000000 * (ds.length : Int)
  | [], i, f => Int.le_refl 0
  | d :: r, i, f => by
    have hns : sml t.fee := by unfold sml; omega
    by_cases q1 : d.1 + t.grace ≤ day
    · by_cases q2 : paid < d.2 ∧ 0 < t.fee
      · rw [lateGo_yes q1 q2]
        show absE a ([((⟨loan, day, 3, (i : Int) + 1⟩ : Key), refMade [⟨4, t.fee⟩, ⟨7, -t.fee⟩])] ++ (lateGo t loan day paid r (i + 1) (f + t.fee)).2.2) ≤ _
        rw [absE_app, mk_up (by decide) (by decide) (by decide) hns (sml_neg hns)]
        have ih := late_abs (loan := loan) (day := day) (paid := paid) hf a r (i + 1) (f + t.fee)
        have h1 := of_pair (a := 4) (b := 7) (n := t.fee) (c := a) (m := 1000000000) (by omega) (by decide)
        show iabs (ofV a [⟨4, t.fee⟩, ⟨7, -t.fee⟩]) + 0 + absE a (lateGo t loan day paid r (i + 1) (f + t.fee)).2.2 ≤ 1000000000 * ((r.length + 1 : Nat) : Int)
        omega
      · rw [lateGo_no q1 q2]
        have ih := late_abs (loan := loan) (day := day) (paid := paid) hf a r (i + 1) f
        show absE a (lateGo t loan day paid r (i + 1) f).2.2 ≤ 1000000000 * ((r.length + 1 : Nat) : Int)
        omega
    · rw [lateGo_stop q1]
      show (0 : Int) ≤ 1000000000 * ((r.length + 1 : Nat) : Int)
      omega
theorem late_cnt {t : Tm} {loan day paid : Int} : ∀ (ds : List (Int × Int)) (i : Nat) (f : Int), (lateGo t loan day paid ds i f).2.2.length + i ≤ (lateGo t loan day paid ds i f).1
  | [], i, f => by show 0 + i ≤ i; omega
  | d :: r, i, f => by
    by_cases q1 : d.1 + t.grace ≤ day
    · by_cases q2 : paid < d.2 ∧ 0 < t.fee
      · rw [lateGo_yes q1 q2]
        have ih := late_cnt (t := t) (loan := loan) (day := day) (paid := paid) r (i + 1) (f + t.fee)
        show (lateGo t loan day paid r (i + 1) (f + t.fee)).2.2.length + 1 + i ≤ (lateGo t loan day paid r (i + 1) (f + t.fee)).1
        omega
      · rw [lateGo_no q1 q2]
        have ih := late_cnt (t := t) (loan := loan) (day := day) (paid := paid) r (i + 1) f
        show (lateGo t loan day paid r (i + 1) f).2.2.length + i ≤ (lateGo t loan day paid r (i + 1) f).1
        omega
    · rw [lateGo_stop q1]
      show 0 + i ≤ i
      omega
theorem night_cnt {S : Sto} {day : Int} {x : St} {next : Nat} : (nightF S day x next).2.2.length + next ≤ (nightF S day x next).2.1 + 1 := by
  have h := late_cnt (t := S.t) (loan := S.loan) (day := day) (paid := x.paid) (S.dues.drop next) next x.fees
  unfold nightF
  split
  · simp only [List.length_append, List.length_cons, List.length_nil]
    omega
  · simp only [List.length_nil]
    omega
theorem night_keys {S : Sto} {day : Int} {x : St} {next : Nat} {e : Key × List Leg} (h : e ∈ (nightF S day x next).2.2) : e.1.loan = S.loan ∧ e.1.day = day ∧ (e.1.kind = 2 ∨ e.1.kind = 3) ∧ 0 ≤ e.1.seq ∧ e.1.seq ≤ (next : Int) + (S.dues.length : Int) := by
  unfold nightF at h
  split at h
  · rcases List.mem_append.1 h with h | h
    · obtain ⟨j, h1, h2, h3⟩ := late_keys _ _ _ e h
      rw [List.length_drop] at h2
      rw [h3]
      exact ⟨rfl, rfl, .inr rfl, by show (0 : Int) ≤ (j : Int) + 1; omega, by show (j : Int) + 1 ≤ _; omega⟩
    · rw [List.mem_singleton] at h
      rw [h]
      exact ⟨rfl, rfl, .inl rfl, Int.le_refl 0, by show (0 : Int) ≤ _; omega⟩
  · cases h
theorem night_abs {S : Sto} (hS : StoOk S) {k day : Int} {x : St} {next : Nat} (hx : StB S k x) (hd : dayB day = true) (a : Int) : absE a (nightF S day x next).2.2 ≤ 1000000000000 := by
  have b1 := (brings_bd (b := S.t.basis) ⟨hS.tin.parts.1, hS.ok.parts⟩ hx.prin hx.carry hd).n
  have hns : sml (brings S.t.parts S.t.basis x.prin x.carry day).1 := by unfold sml; omega
  have hl := late_abs (loan := S.loan) (day := day) (paid := x.paid) hS.ok.fee a (S.dues.drop next) next x.fees
  have hn : (S.dues.drop next).length ≤ 480 := by rw [List.length_drop]; have := hS.len; omega
  unfold nightF
  split
  · show absE a (_ ++ [((⟨S.loan, day, 2, 0⟩ : Key), refMade [⟨3, (brings S.t.parts S.t.basis x.prin x.carry day).1⟩, ⟨6, -(brings S.t.parts S.t.basis x.prin x.carry day).1⟩])]) ≤ _
    rw [absE_app, mk_up (by decide) (by decide) (by decide) hns (sml_neg hns)]
    have h1 := of_pair (a := 3) (b := 6) (n := (brings S.t.parts S.t.basis x.prin x.carry day).1) (c := a) (m := 10000000000) (by omega) (by decide)
    show absE a (lateGo S.t S.loan day x.paid (S.dues.drop next) next x.fees).2.2 + (iabs (ofV a [⟨3, (brings S.t.parts S.t.basis x.prin x.carry day).1⟩, ⟨6, -(brings S.t.parts S.t.basis x.prin x.carry day).1⟩]) + 0) ≤ _
    omega
  · show (0 : Int) ≤ _
    decide
theorem absE_ok {E : List (Key × List Leg)} (a : Int) : (∀ e, e ∈ E → EntOk e) → absE a E ≤ 30000000000000000 * (E.length : Int) := by
  induction E with
  | nil => exact fun _ => Int.le_refl 0
  | cons e r ih =>
    intro h
    have h1 := (h e List.mem_cons_self).amt a
    have h2 := ih fun x hx => h x (List.mem_cons_of_mem _ hx)
    have h3 := iabs_le (n := ofV a e.2) (m := 30000000000000000) (by have := h1.1; omega) h1.2
    show iabs (ofV a e.2) + absE a r ≤ 30000000000000000 * ((r.length + 1 : Nat) : Int)
    omega
/-- Behind i days. -/
structure BI (S : Sto) (i : Nat) (c : Int) (n : Nat) (s : TS) : Prop where
  key : ∀ e, e ∈ s.E → KyOk S (S.t.start + (i : Int)) e.1
  abs : ∀ a, absE a s.E + 30000000000000000 * (s.l.length : Int) ≤ c
  ev : ∀ v, v ∈ s.l → 4 ≤ v.kind ∧ v.kind ≤ 7 ∧ inK .u32 v.seq
  len : s.E.length + s.l.length ≤ s.next + n
theorem bi_board {S : Sto} (hS : StoOk S) {l : List Ev} (hl : l.length ≤ 19) (hv : ∀ v, v ∈ l → 4 ≤ v.kind ∧ v.kind ≤ 7 ∧ inK .u32 v.seq) : BI S 1 580000000000000000 20 (boardF S S.t.start ⟨st0, 0, l, []⟩) := by
  have hp := hS.ok.prin
  have hns : sml S.t.prin := by unfold sml; omega
  unfold boardF
  rw [if_pos rfl, mk_dn (by decide) (by decide) (by decide) (sml_neg hns) hns]
  refine ⟨fun e he => ?_, fun a => ?_, hv, by show 1 + l.length ≤ 0 + 20; omega⟩
  · rw [List.nil_append, List.mem_singleton] at he
    rw [he]
    exact ⟨rfl, ⟨Int.le_refl _, by show S.t.start < _; omega⟩, ⟨by show (1 : Int) ≤ 1; decide, by show (1 : Int) ≤ 7; decide⟩, ⟨by show (0 : Int) ≤ 0; decide, by show (0 : Int) ≤ 4294967295; decide⟩⟩
  · have h1 := of_pair (a := 1) (b := 2) (n := -S.t.prin) (c := a) (m := 1000000000000) (by omega) (by decide)
    rw [Int.neg_neg] at h1
    show iabs (ofV a [⟨1, -S.t.prin⟩, ⟨2, S.t.prin⟩]) + 0 + 30000000000000000 * (l.length : Int) ≤ _
    omega
theorem bi_eat {S : Sto} {i n : Nat} {c : Int} {s : TS} (h : BI S i c n s) {day : Int} (hday : S.t.start ≤ day ∧ day < S.t.start + (i : Int)) (hok : ∀ e, e ∈ (ateF S day s).E → EntOk e) : BI S i c n (ateF S day s) := by
  refine ⟨fun e he => ?_, fun a => ?_, fun v hv => h.ev v (eat_sub _ _ v hv), ?_⟩
  · rcases List.mem_append.1 he with he | he
    · exact h.key e he
    · obtain ⟨v, h1, h2⟩ := eat_keys _ _ e he
      obtain ⟨k1, k2, k3⟩ := h.ev v h1
      rw [h2]
      exact ⟨rfl, hday, ⟨by show 1 ≤ v.kind; omega, k2⟩, k3⟩
  · have h1 := h.abs a
    have h2 := eat_cnt (S := S) (day := day) s.l s.x
    have h3 := absE_ok a (E := (eatF S day s.l s.x).2.2) fun e he => hok e (List.mem_append_right _ he)
    show absE a (s.E ++ (eatF S day s.l s.x).2.2) + 30000000000000000 * ((eatF S day s.l s.x).2.1.length : Int) ≤ _
    rw [absE_app]
    omega
  · have h1 := h.len
    have h2 := eat_cnt (S := S) (day := day) s.l s.x
    show (s.E ++ (eatF S day s.l s.x).2.2).length + (eatF S day s.l s.x).2.1.length ≤ s.next + n
    rw [List.length_append]
    omega
theorem bi_sleep {S : Sto} (hS : StoOk S) {i n : Nat} {c : Int} {s : TS} {k : Int} (h : BI S i c n s) {day : Int} (hday : S.t.start ≤ day ∧ day < S.t.start + (i : Int)) (hx : StB S k s.x) (hd : dayB day = true) (hn : s.next ≤ S.dues.length) : BI S i (c + 1000000000000) (n + 1) (sleepF S day s) := by
  have hlen := hS.len.2
  refine ⟨fun e he => ?_, fun a => ?_, h.ev, ?_⟩
  · rcases List.mem_append.1 he with he | he
    · exact h.key e he
    · obtain ⟨h1, h2, h3, h4, h5⟩ := night_keys he
      exact ⟨h1, ⟨by omega, by omega⟩, by omega, h4, by show e.1.seq ≤ 4294967295; omega⟩
  · have h1 := h.abs a
    have h2 := night_abs hS (next := s.next) hx hd a
    show absE a (s.E ++ (nightF S day s.x s.next).2.2) + 30000000000000000 * (s.l.length : Int) ≤ _
    rw [absE_app]
    omega
  · have h1 := h.len
    have h2 := night_cnt (S := S) (day := day) (x := s.x) (next := s.next)
    show (s.E ++ (nightF S day s.x s.next).2.2).length + s.l.length ≤ (nightF S day s.x s.next).2.1 + (n + 1)
    rw [List.length_append]
    omega
theorem BI.up {S : Sto} {i n : Nat} {c : Int} {s : TS} (h : BI S i c n s) : BI S (i + 1) c n s :=
  ⟨fun e he => (h.key e he).mono (by omega), h.abs, h.ev, h.len⟩
theorem BI.more {S : Sto} {i n n' : Nat} {c c' : Int} {s : TS} (h : BI S i c n s) (hc : c ≤ c') (hn : n ≤ n') : BI S i c' n' s :=
  ⟨h.key, fun a => Int.le_trans (h.abs a) hc, h.ev, by have := h.len; omega⟩
theorem bi_rest {S : Sto} (hS : StoOk S) {th : Int} {i n : Nat} {c D : Int} {s : TS} (h : BI S i c n s) {day : Int} (hday : S.t.start ≤ day ∧ day < S.t.start + (i : Int)) (hm : MidB S i (ateF S day s)) (hd : dayB day = true) (hall : AI S D (if day ≤ th then sleepF S day (ateF S day s) else ateF S day s)) :
    BI S i (c + 1000000000000) (n + 1) (if day ≤ th then sleepF S day (ateF S day s) else ateF S day s) := by
  split at hall
  · rename_i q
    rw [if_pos q]
    exact bi_sleep hS (bi_eat h hday fun e he => hall.acc.ok e (List.mem_append_left _ he)) hday hm.x hd hm.next
  · rename_i q
    rw [if_neg q]
    exact (bi_eat h hday hall.acc.ok).more (by omega) (by omega)
theorem MidB.up {S : Sto} {i : Nat} {s : TS} (h : MidB S i s) : MidB S (i + 1) s := ⟨h.x.mono (by omega), h.next, h.l, by have := h.E; omega⟩
theorem bi_days {S : Sto} (hS : StoOk S) {th : Int} (hth : th ≤ 3640000) {l : List Ev} (hl : l.length ≤ 19) (hok : LOk l) (hq : ∀ v, v ∈ l → inK .u32 v.seq) : ∀ i : Nat, i ≤ 300 → BI S (i + 1) (580000000000000000 + 1000000000000 * ((i + 1 : Nat) : Int)) (20 + (i + 1)) (daysF S th ⟨st0, 0, l, []⟩ (i + 1))
  | 0, _ => by
    have h1 := hS.ok.start
    have hall : AI S (S.t.start + ((0 + 1 : Nat) : Int)) (oneDay S th (S.t.start + ((0 : Nat) : Int)) ⟨st0, 0, l, []⟩) := ai_days hS hth hl hok 0 (by omega)
    have hb := bi_board hS hl (fun v hv => ⟨(hok.ev v hv).2.1, (hok.ev v hv).2.2, hq v hv⟩)
    have e : S.t.start + ((0 : Nat) : Int) = S.t.start := by omega
    have hm : MidB S 0 (ateF S (S.t.start + ((0 : Nat) : Int)) (boardF S (S.t.start + ((0 : Nat) : Int)) ⟨st0, 0, l, []⟩)) := ate_bd hS (days_bd hS hth hl (fun e he => (hok.ev e he).1) 0)
    show BI S 1 _ _ (oneDay S th (S.t.start + ((0 : Nat) : Int)) ⟨st0, 0, l, []⟩)
    unfold oneDay at hall ⊢
    rw [e] at hall hm ⊢
    exact (bi_rest hS hb (by omega) hm.up (by simp only [dayB, Bool.and_eq_true, decide_eq_true_eq]; omega) hall).more (by omega) (by omega)
  | i + 1, hi => by
    have h1 := hS.ok.start
    have ih := bi_days hS hth hl hok hq i (by omega)
    have hall : AI S (S.t.start + ((i + 1 + 1 : Nat) : Int)) (oneDay S th (S.t.start + ((i + 1 : Nat) : Int)) (daysF S th ⟨st0, 0, l, []⟩ (i + 1))) := ai_days hS hth hl hok (i + 1) hi
    have hm := ate_bd hS (day := S.t.start + ((i + 1 : Nat) : Int)) (days_bd hS hth hl (fun e he => (hok.ev e he).1) (i + 1))
    have hbd : boardF S (S.t.start + ((i + 1 : Nat) : Int)) (daysF S th ⟨st0, 0, l, []⟩ (i + 1)) = daysF S th ⟨st0, 0, l, []⟩ (i + 1) := by
      unfold boardF
      rw [if_neg (by omega)]
    rw [hbd] at hm
    show BI S (i + 1 + 1) _ _ (oneDay S th (S.t.start + ((i + 1 : Nat) : Int)) (daysF S th ⟨st0, 0, l, []⟩ (i + 1)))
    unfold oneDay at hall ⊢
    rw [hbd] at hall ⊢
    exact (bi_rest hS ih.up (by omega) hm.up (by simp only [dayB, Bool.and_eq_true, decide_eq_true_eq]; omega) hall).more (by omega) (by omega)
/-- What may have happened: events that may be, of numbers of their own. -/
structure PsOk (ps : List Pa) : Prop where
  ev : ∀ p, p ∈ ps → evRB p.ev = true
  seq : ∀ p, p ∈ ps → inK .u32 p.ev.seq
  nd : (ps.map fun p => p.ev.seq).Nodup
theorem liveL_sub : ∀ ps : List Pa, ((liveL ps).map Ev.seq).Sublist (ps.map fun p => p.ev.seq)
  | [] => List.Sublist.refl _
  | p :: r => by
    unfold liveL
    split
    · exact (liveL_sub r).cons _
    · exact (liveL_sub r).cons_cons _
theorem evRB_kind {e : Ev} (h : evRB e = true) : 4 ≤ e.kind ∧ e.kind ≤ 7 := by
  unfold evRB at h
  split at h
  · omega
  · split at h
    · omega
    · cases h
theorem PsOk.lok {ps : List Pa} (h : PsOk ps) : LOk (liveL ps) := by
  refine ⟨fun e he => ?_, h.nd.sublist (liveL_sub ps)⟩
  obtain ⟨p, h1, h2, _⟩ := liveL_mem he
  rw [← h2]
  have h3 := h.ev p h1
  exact ⟨evRB_amt (by rw [h3]; decide), evRB_kind h3⟩
/-- What is told: all that a ledger asks of entries. -/
structure TdOk (S : Sto) (x : St) (E : List (Key × List Leg)) : Prop where
  adds : AddsL S ⟨x, 0, [], E⟩
  eok : EOk S.loan E
  key : ∀ e, e ∈ E → KyOk S 4000000 e.1
  abs : ∀ a, absE a E ≤ 600000000000000000
  len : E.length ≤ 780
theorem leg_sml {k : Key} {ls : List Leg} (hr : rightB k ls = true) (h : ∀ a, sml (ofV a ls)) : ∀ g, g ∈ ls → sml g.amt := fun g hg => by
  have h1 := amtOf_mem (rightB_rise hr) hg
  have h2 := h g.acct
  rw [← ofV_amt, h1] at h2
  exact h2
theorem told_ok {S : Sto} (hS : StoOk S) (hlo : inK .u32 S.loan) {ps : List Pa} (hp : PsOk ps) (h19 : ps.length ≤ 19) {thr : Int} (h1 : S.t.start - 1 ≤ thr ∧ thr ≤ S.t.start + 250) {x : St} {E : List (Key × List Leg)} (h : told S thr ps x E) : TdOk S x E := by
  have hst := hS.ok.start
  obtain ⟨l, q1, _, q3, q4⟩ := h
  have em : mn thr 3640000 = thr := by unfold mn; rw [if_neg (by omega)]
  rw [em] at q3 q4
  have hok : LOk l := hp.lok.perm q1
  have hl : l.length ≤ 19 := by have := q1.length_eq; have := liveL_len ps; omega
  have hq : ∀ v, v ∈ l → inK .u32 v.seq := fun v hv => by
    obtain ⟨p, g1, g2, _⟩ := liveL_mem (q1.mem_iff.1 hv)
    rw [← g2]
    exact hp.seq p g1
  obtain ⟨j, ej⟩ : ∃ j : Nat, (thr + 2 - S.t.start).toNat = j + 1 := ⟨(thr + 1 - S.t.start).toNat, by omega⟩
  have hj : j ≤ 300 := by omega
  have ha := ai_days hS (th := thr) (by omega) hl hok j hj
  have hb := days_bd hS (th := thr) (by omega) hl (fun e he => (hok.ev e he).1) (j + 1)
  have hc := bi_days hS (th := thr) (by omega) hl hok hq j hj
  have et : tellF S thr l = daysF S thr ⟨st0, 0, l, []⟩ (j + 1) := by unfold tellF; rw [ej]
  rw [et] at q3 q4
  have hlo' : 0 ≤ S.loan ∧ S.loan ≤ 4294967295 := hlo
  have hkey : ∀ e, e ∈ E → KyOk S 4000000 e.1 := fun e he => by rw [q4] at he; exact (hc.key e he).mono (by omega)
  have hen : ∀ e, e ∈ E → EntOk e := fun e he => by rw [q4] at he; exact ha.acc.ok e he
  refine ⟨?_, ⟨⟨?_, fun e he => (hkey e he).loan⟩, fun e he => (hen e he).right, fun e he => ?_, fun e he => leg_sml (hen e he).right (hen e he).amt⟩, hkey, fun a => ?_, ?_⟩
  · rw [q3, q4]
    exact ⟨ha.acc, ha.ki.nd, hb.x.mono (by omega)⟩
  · rw [q4]
    exact ha.ki.nd
  · have k := hkey e he
    have k1 := k.day
    have k2 := k.kind
    refine ⟨by rw [k.loan]; exact hlo, ⟨by show -2147483648 ≤ e.1.day; omega, by show e.1.day ≤ 2147483647; omega⟩, ⟨by show 0 ≤ e.1.kind; omega, by show e.1.kind ≤ 255; omega⟩, k.seq⟩
  · have h5 := hc.abs a
    rw [← q4] at h5
    omega
  · have h5 := hc.len
    have h6 := hb.next
    have h7 := hS.len.2
    rw [← q4] at h5
    omega
end Go.Proofs.YtjlfjjgjghdokaaGreatDoor
