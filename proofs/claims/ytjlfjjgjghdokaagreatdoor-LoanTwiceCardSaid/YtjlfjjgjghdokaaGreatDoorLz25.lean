/- Twice: an event of a number that there is, gone or not: LoanTwice walked. -/
import Derived.Test.YtjlfjjgjghdokaaGreatDoorLz24
set_option linter.unusedVariables false
namespace Go.Proofs.YtjlfjjgjghdokaaGreatDoor
open Go Go.Proofs Go.Wk
theorem rvBad (p : Nat) (o : Lo) (ok : LoOk o) (q today : Int) (ht : -2147483648 ≤ today ∧ today ≤ 2147483647) (j : Nat) (x : Pa) (hx : o.ps[j]? = some x) (hq : findI q o.ps 0 = (j : Int)) (hd : -2147483648 ≤ x.ev.day ∧ x.ev.day ≤ 2147483647) (c : Int) (hn : rvE o j x today = some c) (w : World) (M I : BS) (H : Hp ⟨w, M, I⟩ (loA p o) (loF o) w) :
    Ctr Tryz.prog 37 [.pointer (some ⟨p, 0, none⟩), .int .u32 q, .int .i32 today] w M I (fun f : Nat => .iface 116 (.pointer (some ⟨f, 0, none⟩))) (fun _ => True) (fun f => blk f [.int .u64 o.S.loan, .iface 100 (.int .i64 c)] 118 :: loA p o) (fun _ => loF o) := by
  refine (loanRev p o ok q today ht j x hx hq hd w M I H).imp fun a w' hφ h => ?_
  unfold rvOk at hφ
  rw [hn] at hφ
  obtain ⟨⟨f, ef⟩, eo⟩ := hφ
  refine ⟨f, ?_, trivial, ?_⟩
  · rw [ef]
  · rw [ef, eo] at h
    exact h
theorem rvGood (p : Nat) (o : Lo) (ok : LoOk o) (q today : Int) (ht : -2147483648 ≤ today ∧ today ≤ 2147483647) (j : Nat) (x : Pa) (hx : o.ps[j]? = some x) (hq : findI q o.ps 0 = (j : Int)) (hd : -2147483648 ≤ x.ev.day ∧ x.ev.day ≤ 2147483647) (hn : rvE o j x today = none) (w : World) (M I : BS) (H : Hp ⟨w, M, I⟩ (loA p o) (loF o) w) :
    Ctr Tryz.prog 37 [.pointer (some ⟨p, 0, none⟩), .int .u32 q, .int .i32 today] w M I (fun _ : Lo => .nilIface) (fun r => r.S = o.S ∧ r.sb = o.sb ∧ r.dv = o.dv ∧ r.thr = o.thr ∧ r.ps = o.ps.set j ⟨x.ev, true⟩ ∧ LoOk r ∧ told o.S o.thr (o.ps.set j ⟨x.ev, true⟩) r.x (r.h.es.map kl)) (fun r => loA p r) (fun r => loF r) := by
  refine (loanRev p o ok q today ht j x hx hq hd w M I H).imp fun a w' hφ h => ?_
  unfold rvOk at hφ
  rw [hn] at hφ
  refine ⟨a.o, ?_, hφ.2, ?_⟩
  · rw [hφ.1]
  · rw [hφ.1] at h
    exact Hp.keep h
theorem told_gone {S : Sto} {thr : Int} {ps : List Pa} {x : St} {E : List (Key × List Leg)} (hp : liveL ps = []) (h : told S thr ps x E) : x = (tellF S (mn thr 3640000) []).x := by
  obtain ⟨l, h1, _, h3, _⟩ := h
  rw [hp] at h1
  rw [h1.eq_nil] at h3
  exact h3
theorem sto_ext {a b : Sto} (h1 : a.loan = b.loan) (h2 : a.t = b.t) (h3 : a.dues = b.dues) : a = b := by
  cases a; cases b; simp only at h1 h2 h3; rw [h1, h2, h3]
def twE (u : Tm) (m am : Int) : Ev := ⟨1, u.start, IntKind.u8.wrap (4 + m), IntKind.i64.wrap (1 + IntKind.i64.wrap am)⟩
set_option maxHeartbeats 4000000 in
set_option maxRecDepth 20000 in
theorem twiceWalk (t : Tm) (hin0 : TmIn t) (kd am : Int) (hkd : inK .u8 kd) (ham : inK .u16 am) (w : World) (M I : BS) (hM : ∀ b, ¬ M b) (H : Hp ⟨w, M, I⟩ [] [Glob 0 errTy, LibF] w) :
    Ctr Tryz.prog 9 [tmV t, .int .u8 kd, .int .u16 am] w M I (fun _ : Unit => .bool true) (fun _ => True) (fun _ => []) (fun _ => []) := by
  have hkd0 : 0 ≤ kd := hkd.1
  have ham0 : 0 ≤ am ∧ am ≤ 65535 := ham
  have hin := smT_in hin0
  refine Exe.of_ev tok Tryz.call9 Tryz.func9 rfl rfl rfl ?_
  refine box_as H (tmC t) rfl fun r w1 H1 => ?_
  refine call_rule H1 (fun M I h0 h => awake18 _ M I (h0 rfl) h) fun _ w2 _ H2 => ?_
  refine load_rule tok H2 (v := tmV t) rfl ?_
  refine call_rule H2 (fun M I _ h => small_ t _ M I h) fun _ w3 _ H3 => ?_
  refine Exists.elim (show ∃ u, u = smT t from ⟨_, rfl⟩) fun u eu => ?_
  rw [← eu] at hin
  refine store_as tok H3 (tmC (smT t)) rfl rfl rfl rfl rfl fun w4 H4 => ?_
  rw [← eu] at H4
  refine load_rule tok H4 (v := tmV u) rfl ?_
  refine call_rule H4 (fun M I _ h => ownTm18 u hin _ M I h) fun _ w5 _ H5 => ?_
  refine call_rule H5 (fun M I _ h => refRight u hin _ M I h) fun _ w6 _ H6 => ?_
  refine br (fun q => ?_) (fun q => ?_)
  · exact Exists.intro () (And.intro rfl (And.intro trivial (Hp.keep H6)))
  have q : rtB u = true := by have q : (!rtB u) = false := q; simpa using q
  have hb : tmB u = true := by rw [← rtB_eq]; exact q
  have ok := tmB_iff.1 hb
  have hst := ok.start
  have H6 : Hp ⟨w, M, I⟩ [blk r (tmC u) 28] [Sl dayR (.slice none 0 0) [], Glob 0 errTy] w6 := Hp.keep (Hp.slNil dayR H6)
  refine load_rule tok H6 (v := tmV u) rfl ?_
  refine call_rule H6 (fun M I h0 h => loanNew 7 ⟨by decide, by decide⟩ u hin none 0 0 [] hb (by decide) _ M I (h0 rfl) h) fun a w7 ha H7 => ?_
  have hsu : a.2.S.t.start = u.start := by rw [ha.tm]
  have hps : a.2.ps = [] := ha.ps
  have hthr : a.2.thr = u.start - 1 := ha.thr
  have hact : a.2.x.status = 1 := by
    have h0 := ha.told
    rw [hps, hthr, ← hsu] at h0
    have e : a.2.S.t.start - 1 = a.2.S.t.start - 1 + ((0 : Nat) : Int) := by omega
    rw [e] at h0
    exact told_active ha.ok.sto (by omega) h0
  refine Exists.elim (show ∃ m : Int, m = kd % 3 from ⟨_, rfl⟩) fun m em => ?_
  have hm : 0 ≤ m ∧ m ≤ 2 := by omega
  have er : kd.tmod 3 = m := by rw [Int.tmod_eq_emod_of_nonneg hkd0]; exact em.symm
  have ekk : IntKind.u8.wrap (4 + m) = 4 + m := by
    have h1 : m = 0 ∨ m = 1 ∨ m = 2 := by omega
    rcases h1 with e | e | e <;> rw [e] <;> decide
  have eam : IntKind.i64.wrap (1 + IntKind.i64.wrap am) = 1 + am := by rw [i64w (n := am) (by omega) (by omega)]; exact i64w (by omega) (by omega)
  have hday : -2147483648 ≤ (twE u m am).day ∧ (twE u m am).day ≤ 2147483647 := by
    show -2147483648 ≤ u.start ∧ u.start ≤ 2147483647
    omega
  have hdt : -2147483648 ≤ u.start ∧ u.start ≤ 2147483647 := hday
  have hev : evRB (twE u m am) = true := by
    unfold evRB
    have h4 : (twE u m am).kind = 4 + m := ekk
    have h5 : (twE u m am).amt = 1 + am := eam
    have h6 : (twE u m am).day = u.start := rfl
    rw [if_pos (by rw [h4]; omega), h5, h6]
    simp only [dayB, coinB, Bool.and_eq_true, decide_eq_true_eq]
    omega
  have hopn : ∀ o : Lo, o.S = a.2.S → o.thr = a.2.thr → opnB o u.start u.start = true := fun o h1 h2 => by
    unfold opnB
    rw [h1, h2, hsu, hthr]
    simp only [Bool.and_eq_true, decide_eq_true_eq]
    omega
  have hn : takeE a.2 (twE u m am) u.start = none := by
    unfold takeE
    rw [if_neg (by rw [hev]; decide), if_neg (by rw [hps]; show ¬ (0 : Int) ≤ -1; decide), if_neg (by show ¬ opnB a.2 u.start u.start = false; rw [hopn a.2 rfl rfl]; decide), if_neg (by rw [hact]; decide), if_neg (by rw [hact]; exact fun hh => absurd hh.1 (by decide))]
  have ht10 : ∀ (o : Lo) (g : Bool), o.ps = [⟨twE u m am, g⟩] → takeE o (twE u m am) u.start = some 10 := fun o g h1 => by
    unfold takeE
    rw [if_neg (by rw [hev]; decide), if_pos (by rw [h1]; show (0 : Int) ≤ (if (1 : Int) = 1 then ((0 : Nat) : Int) else _); rw [if_pos rfl]; decide)]
  have hf1 : ∀ (o : Lo) (g : Bool), o.ps = [⟨twE u m am, g⟩] → findI 1 o.ps 0 = ((0 : Nat) : Int) := fun o g h1 => by rw [h1]; rfl
  have hf2 : ∀ (o : Lo) (g : Bool), o.ps = [⟨twE u m am, g⟩] → findI 2 o.ps 0 = -1 := fun o g h1 => by rw [h1]; rfl
  have H7 : Hp ⟨w, M, I⟩ [blk a.1 (loC a.2) 141, row 105 5 (.slice a.2.pv.A a.2.pv.n a.2.pv.c) a.2.pv.n (pasC a.2.ps), blk a.2.sb (stoC a.2.S a.2.dv) 120, row 71 5 (.slice a.2.h.A a.2.h.es.length a.2.h.c) a.2.h.es.length (ensC a.2.h.es), blk r (tmC u) 28] [Sl dueR (.slice a.2.dv.A a.2.dv.n a.2.dv.c) a.2.S.dues, EnF a.2.h.es, Sl dayR (.slice none 0 0) [], Glob 0 errTy] w7 := Hp.keep H7
  refine rem_as m (by decide) er ?_
  refine load_rule tok H7 (v := .int .i32 u.start) rfl ?_
  refine alloc_as tok H7 [.int .u32 0, .int .i32 0, .int .u8 0, .int .i64 0] rfl rfl rfl fun v w8 H8 => ?_
  refine store_as tok H8 (evC (twE u m am)) rfl rfl rfl rfl rfl fun w9 H9 => ?_
  refine load_rule tok H9 (v := evV (twE u m am)) rfl ?_
  refine load_rule tok H9 (v := .int .i32 u.start) rfl ?_
  refine call_rule H9 (fun M I _ h => takeGood a.1 a.2 ha.ok (by rw [hps]; decide) (twE u m am) hday u.start hdt hn _ M I h) fun o w10 ho H10 => ?_
  have hop : o.ps = [⟨twE u m am, false⟩] := by rw [ho.2.2.2.2.1, hps]; rfl
  have oko : LoOk o := ho.2.2.2.2.2.1
  have hx1 : o.ps[0]? = some ⟨twE u m am, false⟩ := by rw [hop]; rfl
  refine load_rule tok H10 (v := evV (twE u m am)) rfl ?_
  refine load_rule tok H10 (v := .int .i32 u.start) rfl ?_
  refine call_rule H10 (fun M I _ h => takeBad a.1 o oko (by rw [hop]; show 1 ≤ 18; decide) (twE u m am) hday u.start hdt 10 (ht10 o false hop) _ M I h) fun f w11 _ H11 => ?_
  refine call_rule H11 (fun M I _ h => codeFault f o.S.loan 10 _ M I h) fun _ w12 _ H12 => ?_
  have H12 : Hp ⟨w, M, I⟩ [blk a.1 (loC o) 141, row 105 5 (.slice o.pv.A o.pv.n o.pv.c) o.pv.n (pasC o.ps), blk o.sb (stoC o.S o.dv) 120, row 71 5 (.slice o.h.A o.h.es.length o.h.c) o.h.es.length (ensC o.h.es), blk v (evC (twE u m am)) 65, blk r (tmC u) 28] [Sl dueR (.slice o.dv.A o.dv.n o.dv.c) o.S.dues, EnF o.h.es, Sl dayR (.slice none 0 0) [], Glob 0 errTy] w12 := Hp.keep H12
  refine load_rule tok H12 (v := .int .i32 u.start) rfl ?_
  by_cases hk : m = 0
  · have hk4 : (twE u m am).kind = 4 := by
      show IntKind.u8.wrap (4 + m) = 4
      rw [ekk, hk]
      rfl
    have hn2 : rvE o 0 ⟨twE u m am, false⟩ u.start = none := by
      unfold rvE
      rw [if_neg (show ¬ false = true from Bool.false_ne_true), if_neg (by show ¬ (twE u m am).kind ≠ 4; rw [hk4]; decide), if_neg (by show ¬ opnB o u.start u.start = false; rw [hopn o ho.1 ho.2.2.2.1]; decide)]
    refine call_rule H12 (fun M I _ h => rvGood a.1 o oko 1 u.start hdt 0 ⟨twE u m am, false⟩ hx1 (hf1 o false hop) hday hn2 _ M I h) fun s w13 hs H13 => ?_
    have hsp : s.ps = [⟨twE u m am, true⟩] := by rw [hs.2.2.2.2.1, hop]; rfl
    have oks : LoOk s := hs.2.2.2.2.2.1
    have hx2 : s.ps[0]? = some ⟨twE u m am, true⟩ := by rw [hsp]; rfl
    have g4 : (!(IntKind.u8.wrap (4 + m) == 4)) = false := by rw [ekk, hk]; rfl
    refine br (fun q => absurd (g4.symm.trans q) (by decide)) (fun _ => ?_)
    refine load_rule tok H13 (v := tmV u) rfl ?_
    refine call_rule H13 (fun M I h0 h => loanNew 7 ⟨by decide, by decide⟩ u hin none 0 0 [] hb (by decide) _ M I (h0 rfl) h) fun b w14 hb2 H14 => ?_
    have hSS : b.2.S = a.2.S := by
      have e1 : b.2.S.loan = a.2.S.loan := by rw [hb2.loan, ha.loan]
      have e2 : b.2.S.t = a.2.S.t := by rw [hb2.tm, ha.tm]
      have e3 : b.2.S.dues = a.2.S.dues := DuesR.one hb2.dues ha.dues
      exact sto_ext e1 e2 e3
    have hxx : s.x = b.2.x := by
      have h1 := hs.2.2.2.2.2.2
      have h2 := hb2.told
      have h3 := told_gone (by rw [hop]; rfl) h1
      have h4 := told_gone (by rw [hb2.ps]; rfl) h2
      rw [h3, h4, hSS, ho.1, hb2.thr, ho.2.2.2.1, hthr]
    have H14 : Hp ⟨w, M, I⟩ [blk a.1 (loC s) 141, row 105 5 (.slice s.pv.A s.pv.n s.pv.c) s.pv.n (pasC s.ps), blk s.sb (stoC s.S s.dv) 120, row 71 5 (.slice s.h.A s.h.es.length s.h.c) s.h.es.length (ensC s.h.es), blk b.1 (loC b.2) 141, blk v (evC (twE u m am)) 65, blk r (tmC u) 28] [Sl dueR (.slice s.dv.A s.dv.n s.dv.c) s.S.dues, EnF s.h.es, Glob 0 errTy] w14 := Hp.keep H14
    refine load_rule tok H14 (v := .int .i32 u.start) rfl ?_
    refine call_rule H14 (fun M I _ h => rvBad a.1 s oks 1 u.start hdt 0 ⟨twE u m am, true⟩ hx2 (hf1 s true hsp) hday 14 rfl _ M I h) fun f1 w15 _ H15 => ?_
    refine call_rule H15 (fun M I _ h => codeFault f1 s.S.loan 14 _ M I h) fun _ w16 _ H16 => ?_
    refine load_rule tok H16 (v := evV (twE u m am)) rfl ?_
    refine load_rule tok H16 (v := .int .i32 u.start) rfl ?_
    refine call_rule H16 (fun M I _ h => takeBad a.1 s oks (by rw [hsp]; show 1 ≤ 18; decide) (twE u m am) hday u.start hdt 10 (ht10 s true hsp) _ M I h) fun f2 w17 _ H17 => ?_
    refine call_rule H17 (fun M I _ h => codeFault f2 s.S.loan 10 _ M I h) fun _ w18 _ H18 => ?_
    refine load_rule tok H18 (v := .int .i32 u.start) rfl ?_
    refine call_rule H18 (fun M I _ h => revNo a.1 s oks 2 u.start (hf2 s true hsp) _ M I h) fun f3 w19 _ H19 => ?_
    refine call_rule H19 (fun M I _ h => codeFault f3 s.S.loan 3 _ M I h) fun _ w20 _ H20 => ?_
    refine call_rule H20 (fun M I _ h => loanState a.1 s _ M I h) fun _ w21 _ H21 => ?_
    refine call_rule H21 (fun M I _ h => loanState b.1 b.2 _ M I h) fun _ w22 _ H22 => ?_
    have hst2 : leafN tb [44, 41] 2 44 (stV s.x) (stV b.2.x) = some true := by
      rw [hxx, stEqV, stEq_self]
    refine eqN_struct tok [44, 41] 2 okSt rfl guard44 hst2 ?_
    exact Exists.intro () (And.intro rfl (And.intro trivial (Hp.keep H22)))
  · have hk4 : (twE u m am).kind ≠ 4 := by
      show IntKind.u8.wrap (4 + m) ≠ 4
      rw [ekk]
      omega
    have hn2 : rvE o 0 ⟨twE u m am, false⟩ u.start = some 1 := by
      unfold rvE
      rw [if_neg (show ¬ false = true from Bool.false_ne_true), if_pos hk4]
    refine call_rule H12 (fun M I _ h => rvBad a.1 o oko 1 u.start hdt 0 ⟨twE u m am, false⟩ hx1 (hf1 o false hop) hday 1 hn2 _ M I h) fun f1 w13 _ H13 => ?_
    have g4 : (!(IntKind.u8.wrap (4 + m) == 4)) = true := by
      rw [ekk]
      simp
      omega
    refine br (fun _ => ?_) (fun q => absurd (g4.symm.trans q) (by decide))
    refine call_rule H13 (fun M I _ h => codeFault f1 o.S.loan 1 _ M I h) fun _ w14 _ H14 => ?_
    refine call_rule H14 (fun M I _ h => loanEvents a.1 o oko _ M I h) fun d w15 hd H15 => ?_
    have hd1 : d.n = 1 := by
      have hd : d.n = o.pv.n := hd
      rw [hd, oko.pn, hop]
      rfl
    refine Exists.elim (row_at (A := d.A) (n := d.n) (c := d.c) H15 (by omega)) fun g hA => ?_
    refine idx_ownA tok hA rfl rfl (by decide) (by rw [hd1]; decide) ?_
    refine row_ldA (A := d.A) (n := d.n) (c := d.c) tok H15 (.bool false) hA (pas_gone hx1) ?_
    exact Exists.intro () (And.intro rfl (And.intro trivial (Hp.keep H15)))
end Go.Proofs.YtjlfjjgjghdokaaGreatDoor
