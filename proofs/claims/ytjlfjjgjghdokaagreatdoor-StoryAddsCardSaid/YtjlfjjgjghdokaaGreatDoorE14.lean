/- A loan to which nothing happens: its plain law, its walk. -/
import Derived.Test.YtjlfjjgjghdokaaGreatDoorE13
set_option linter.unusedVariables false
namespace Go.Proofs.YtjlfjjgjghdokaaGreatDoor
open Go Go.Proofs Go.Wk
/-- All days' interest at once. -/
noncomputable def qF (S : Sto) : Nat → Int × Int
  | 0 => (0, 0)
  | i + 1 => ((qF S i).1 + (brings S.t.parts S.t.basis S.t.prin (qF S i).2 (S.t.start + i)).1, (brings S.t.parts S.t.basis S.t.prin (qF S i).2 (S.t.start + i)).2)
/-- A fee for each month that came and went. -/
def feeS (fee : Int) : List (Int × Int) → Int
  | [] => 0
  | d :: r => (if 0 < d.2 ∧ 0 < fee then fee else 0) + feeS fee r
theorem feeS_app (fee : Int) : ∀ a b, feeS fee (a ++ b) = feeS fee a + feeS fee b
  | [], b => by simp [feeS]
  | d :: r, b => by simp only [List.cons_append, feeS, feeS_app fee r b]; omega
/-- Late fees of a loan of which nothing was paid: what of the list is due. -/
theorem late_none (t : Tm) (loan day : Int) : ∀ (l : List (Int × Int)) (i : Nat) (f : Int), ∃ a b, l = a ++ b ∧ (lateGo t loan day 0 l i f).1 = i + a.length ∧ (lateGo t loan day 0 l i f).2.1 = f + feeS t.fee a ∧ (∀ d, d ∈ a → d.1 + t.grace ≤ day) ∧ (∀ d, b.head? = some d → ¬ d.1 + t.grace ≤ day)
  | [], i, f => ⟨[], [], rfl, by simp [lateGo], by simp [lateGo, feeS], (fun d h => by cases h), (fun d h => by cases h)⟩
  | d :: r, i, f => by
    by_cases h1 : d.1 + t.grace ≤ day
    · by_cases h2 : (0 : Int) < d.2 ∧ 0 < t.fee
      · obtain ⟨a, b, e1, e2, e3, e4, e5⟩ := late_none t loan day r (i + 1) (f + t.fee)
        rw [lateGo_yes h1 h2]
        refine ⟨d :: a, b, by rw [e1]; rfl, ?_, ?_, ?_, e5⟩
        · show (lateGo t loan day 0 r (i + 1) (f + t.fee)).1 = _
          rw [e2, List.length_cons]; omega
        · show (lateGo t loan day 0 r (i + 1) (f + t.fee)).2.1 = _
          rw [e3, feeS, if_pos h2]; omega
        · intro z hz
          rcases List.mem_cons.1 hz with rfl | hz
          · exact h1
          · exact e4 z hz
      · obtain ⟨a, b, e1, e2, e3, e4, e5⟩ := late_none t loan day r (i + 1) f
        rw [lateGo_no h1 h2]
        refine ⟨d :: a, b, by rw [e1]; rfl, ?_, ?_, ?_, e5⟩
        · rw [e2, List.length_cons]; omega
        · rw [e3, feeS, if_neg h2]; omega
        · intro z hz
          rcases List.mem_cons.1 hz with rfl | hz
          · exact h1
          · exact e4 z hz
    · rw [lateGo_stop h1]
      exact ⟨[], d :: r, rfl, by simp, by simp [feeS], (fun d h => by cases h), fun z hz => by rw [← Option.some.inj hz]; exact h1⟩
/-- Nothing happened through so many days. -/
structure Quiet (S : Sto) (i : Nat) (s : TS) : Prop where
  l : s.l = []
  int : s.x.int = (qF S i).1
  carry : s.x.carry = (qF S i).2
  prin : s.x.prin = S.t.prin
  paid : s.x.paid = 0
  cash : s.x.cash = 0
  status : s.x.status = 1
  fees : ∃ a b, S.dues = a ++ b ∧ s.next = a.length ∧ s.x.fees = feeS S.t.fee a ∧ (∀ d, d ∈ a → d.1 + S.t.grace ≤ S.t.start + i - 1) ∧ (∀ d, b.head? = some d → ¬ d.1 + S.t.grace ≤ S.t.start + i - 1)
theorem eat_nil (S : Sto) (day : Int) (s : TS) (h : s.l = []) : ateF S day s = s := by
  unfold ateF
  rw [h, eatF, List.append_nil, ← h]
theorem sleep_quiet {S : Sto} {i : Nat} {s : TS} (hl : s.l = []) (h1 : s.x.int = (qF S i).1) (h2 : s.x.carry = (qF S i).2) (h3 : s.x.prin = S.t.prin) (h4 : s.x.paid = 0) (h5 : s.x.cash = 0) (h6 : s.x.status = 1)
    (hf : ∃ a b, S.dues = a ++ b ∧ s.next = a.length ∧ s.x.fees = feeS S.t.fee a ∧ ∀ d, d ∈ a → d.1 + S.t.grace ≤ S.t.start + i) : Quiet S (i + 1) (sleepF S (S.t.start + i) s) := by
  obtain ⟨a, b, e1, e2, e3, e4⟩ := hf
  have hd : S.dues.drop s.next = b := by rw [e2, e1, List.drop_left]
  obtain ⟨a', b', k1, k2, k3, k4, k5⟩ := late_none S.t S.loan (S.t.start + i) b s.next s.x.fees
  have en : nightF S (S.t.start + i) s.x s.next = ({ s.x with fees := (lateGo S.t S.loan (S.t.start + i) 0 b s.next s.x.fees).2.1, int := s.x.int + (brings S.t.parts S.t.basis s.x.prin s.x.carry (S.t.start + i)).1, carry := (brings S.t.parts S.t.basis s.x.prin s.x.carry (S.t.start + i)).2 }, (lateGo S.t S.loan (S.t.start + i) 0 b s.next s.x.fees).1, (nightF S (S.t.start + i) s.x s.next).2.2) := by
    have hL : lateGo S.t S.loan (S.t.start + i) s.x.paid (S.dues.drop s.next) s.next s.x.fees = lateGo S.t S.loan (S.t.start + i) 0 b s.next s.x.fees := by rw [h4, hd]
    unfold nightF
    rw [if_pos h6, hL]
  unfold sleepF
  rw [en]
  refine ⟨hl, ?_, ?_, h3, h4, h5, h6, ?_⟩
  · show s.x.int + _ = _
    rw [qF, h1, h3, h2]
  · show (brings S.t.parts S.t.basis s.x.prin s.x.carry (S.t.start + i)).2 = _
    rw [qF, h3, h2]
  · have e0 : S.t.start + ((i + 1 : Nat) : Int) - 1 = S.t.start + i := by omega
    rw [e0]
    refine ⟨a ++ a', b', by rw [e1, k1, List.append_assoc], ?_, ?_, ?_, k5⟩
    · show (lateGo S.t S.loan (S.t.start + i) 0 b s.next s.x.fees).1 = _
      rw [k2, e2, List.length_append]
    · show (lateGo S.t S.loan (S.t.start + i) 0 b s.next s.x.fees).2.1 = _
      rw [k3, e3, feeS_app]
    · intro d hd
      rcases List.mem_append.1 hd with h | h
      · exact e4 d h
      · exact k4 d h
theorem quiet_days {S : Sto} (hS : StoOk S) {th : Int} : ∀ i : Nat, S.t.start + i ≤ th → Quiet S (i + 1) (daysF S th ⟨st0, 0, [], []⟩ (i + 1))
  | 0, h => by
    have e0 : S.t.start + ((0 : Nat) : Int) = S.t.start := Int.add_zero _
    show Quiet S 1 (oneDay S th (S.t.start + ((0 : Nat) : Int)) ⟨st0, 0, [], []⟩)
    unfold oneDay
    rw [if_pos h]
    have hb : boardF S (S.t.start + ((0 : Nat) : Int)) ⟨st0, 0, [], []⟩ = ⟨{ st0 with prin := S.t.prin, status := 1 }, 0, [], [] ++ [(⟨S.loan, S.t.start + ((0 : Nat) : Int), 1, 0⟩, refMade [⟨2, S.t.prin⟩, ⟨1, -S.t.prin⟩])]⟩ := by unfold boardF; rw [if_pos e0]
    rw [hb, eat_nil S _ _ rfl]
    exact sleep_quiet (i := 0) rfl rfl rfl rfl rfl rfl rfl ⟨[], S.dues, rfl, rfl, rfl, fun d h => by cases h⟩
  | i + 1, h => by
    have ih := quiet_days hS (th := th) i (by omega)
    show Quiet S (i + 1 + 1) (oneDay S th (S.t.start + ((i + 1 : Nat) : Int)) (daysF S th ⟨st0, 0, [], []⟩ (i + 1)))
    unfold oneDay
    rw [if_pos h]
    have hb : boardF S (S.t.start + ((i + 1 : Nat) : Int)) (daysF S th ⟨st0, 0, [], []⟩ (i + 1)) = daysF S th ⟨st0, 0, [], []⟩ (i + 1) := by unfold boardF; rw [if_neg (by omega)]
    rw [hb, eat_nil S _ _ ih.l]
    obtain ⟨a, b, e1, e2, e3, e4, e5⟩ := ih.fees
    exact sleep_quiet (i := i + 1) ih.l ih.int ih.carry ih.prin ih.paid ih.cash ih.status ⟨a, b, e1, e2, e3, fun d hd => by have := e4 d hd; omega⟩
/-- Through a day. -/
theorem quiet_tell {S : Sto} (hS : StoOk S) (k : Nat) : Quiet S (k + 1) (tellF S (S.t.start + k) []) := by
  have e : (S.t.start + k + 2 - S.t.start).toNat = k + 1 + 1 := by omega
  unfold tellF
  rw [e]
  have hq := quiet_days hS (th := S.t.start + k) k (Int.le_refl _)
  show Quiet S (k + 1) (oneDay S (S.t.start + k) (S.t.start + ((k + 1 : Nat) : Int)) (daysF S (S.t.start + k) ⟨st0, 0, [], []⟩ (k + 1)))
  unfold oneDay
  rw [if_neg (by omega)]
  have hb : boardF S (S.t.start + ((k + 1 : Nat) : Int)) (daysF S (S.t.start + k) ⟨st0, 0, [], []⟩ (k + 1)) = daysF S (S.t.start + k) ⟨st0, 0, [], []⟩ (k + 1) := by unfold boardF; rw [if_neg (by omega)]
  rw [hb, eat_nil S _ _ hq.l]
  exact hq
/-- The statement's own fees. -/
def lawFee (t : Tm) (th : Int) : List (Int × Int) → Int
  | [] => 0
  | d :: r => (if d.1 + t.grace ≤ th ∧ 0 < d.2 then t.fee else 0) + lawFee t th r
theorem lawFee_app (t : Tm) (th : Int) : ∀ a b, lawFee t th (a ++ b) = lawFee t th a + lawFee t th b
  | [], b => by simp [lawFee]
  | d :: r, b => by simp only [List.cons_append, lawFee, lawFee_app t th r b]; omega
theorem lawFee_in {t : Tm} {th : Int} (hf : 0 ≤ t.fee) : ∀ a, (∀ d, d ∈ a → d.1 + t.grace ≤ th) → lawFee t th a = feeS t.fee a
  | [], _ => rfl
  | d :: r, h => by
    rw [lawFee, feeS, lawFee_in hf r fun z hz => h z (List.mem_cons_of_mem _ hz)]
    have := h d List.mem_cons_self
    by_cases h2 : 0 < d.2
    · rw [if_pos ⟨this, h2⟩]
      by_cases h3 : 0 < t.fee
      · rw [if_pos ⟨h2, h3⟩]
      · rw [if_neg (fun hh => h3 hh.2)]; omega
    · rw [if_neg (fun hh => h2 hh.2), if_neg (fun hh => h2 hh.1)]
theorem lawFee_out {t : Tm} {th : Int} : ∀ a, (∀ d, d ∈ a → ¬ d.1 + t.grace ≤ th) → lawFee t th a = 0
  | [], _ => rfl
  | d :: r, h => by
    rw [lawFee, lawFee_out r fun z hz => h z (List.mem_cons_of_mem _ hz), if_neg (fun hh => h d List.mem_cons_self hh.1)]
    rfl
theorem rise_all : ∀ (l : List (Int × Int)), (∀ (k : Nat) (x y : Int × Int), l[k]? = some x → l[k + 1]? = some y → x.1 ≤ y.1) → ∀ d, l.head? = some d → ∀ z, z ∈ l → d.1 ≤ z.1
  | [], _, d, h => by cases h
  | [x], _, d, h => fun z hz => by rw [List.mem_singleton] at hz; rw [hz, ← Option.some.inj h]; exact Int.le_refl _
  | x :: y :: r, hr, d, h => fun z hz => by
    have e : x = d := Option.some.inj h
    rcases List.mem_cons.1 hz with hz | hz
    · rw [hz, e]; exact Int.le_refl _
    · have h1 := hr 0 x y rfl rfl
      have ih := rise_all (y :: r) (fun k u v a b => hr (k + 1) u v a b) y rfl z hz
      rw [← e]; omega
theorem quiet_fees {S : Sto} (hS : StoOk S) (hrise : ∀ (k : Nat) (x y : Int × Int), S.dues[k]? = some x → S.dues[k + 1]? = some y → x.1 ≤ y.1) {k : Nat} {s : TS} (h : Quiet S (k + 1) s) : s.x.fees = lawFee S.t (S.t.start + k) S.dues := by
  obtain ⟨a, b, e1, e2, e3, e4, e5⟩ := h.fees
  have e0 : S.t.start + ((k + 1 : Nat) : Int) - 1 = S.t.start + k := by omega
  rw [e0] at e4 e5
  have hb : ∀ d, d ∈ b → ¬ d.1 + S.t.grace ≤ S.t.start + k := fun d hd => by
    cases b with
    | nil => cases hd
    | cons y r =>
      have h1 := e5 y rfl
      have h2 := rise_all (y :: r) (fun i u v hu hv => hrise (a.length + i) u v (by rw [e1, List.getElem?_append_right (by omega)]; rw [show a.length + i - a.length = i by omega]; exact hu) (by rw [e1, List.getElem?_append_right (by omega)]; rw [show a.length + i + 1 - a.length = i + 1 by omega]; exact hv)) y rfl d hd
      omega
  rw [e1, lawFee_app, lawFee_in hS.ok.fee.1 a e4, lawFee_out b hb, e3]; omega
theorem lawFee_take (t : Tm) (th : Int) {l : List (Int × Int)} {i : Nat} {d : Int × Int} (h : l[i]? = some d) : lawFee t th (l.take (i + 1)) = lawFee t th (l.take i) + (if d.1 + t.grace ≤ th ∧ 0 < d.2 then t.fee else 0) := by
  obtain ⟨hi, e⟩ := List.getElem?_eq_some_iff.1 h
  rw [List.take_succ_eq_append_getElem hi, lawFee_app, e]
  simp [lawFee]
theorem lawFee_bd {t : Tm} {th : Int} (hf : 0 ≤ t.fee ∧ t.fee ≤ 1000000000) : ∀ l, 0 ≤ lawFee t th l ∧ lawFee t th l ≤ 1000000000 * (l.length : Int)
  | [] => ⟨Int.le_refl _, Int.le_refl _⟩
  | d :: r => by
    have := lawFee_bd (th := th) hf r
    rw [lawFee, List.length_cons]
    split <;> omega
theorem qF_bd {S : Sto} (hS : StoOk S) : ∀ i : Nat, S.t.start + i ≤ 3652058 → (0 ≤ (qF S i).1 ∧ (qF S i).1 ≤ 10000000000 * (i : Int)) ∧ (0 ≤ (qF S i).2 ∧ (qF S i).2 < (unitN S.t.basis : Int))
  | 0, _ => ⟨⟨Int.le_refl _, Int.le_refl _⟩, ⟨Int.le_refl _, by have := unit_bd S.t.basis; show (0 : Int) < _; omega⟩⟩
  | i + 1, h => by
    have ih := qF_bd hS i (by omega)
    have h1 := hS.ok.prin
    have h2 := hS.ok.start
    have hb := brings_bd (b := S.t.basis) ⟨hS.tin.parts.1, hS.ok.parts⟩ ⟨by omega, h1.2⟩ ih.2 (n := S.t.start + i) (by simp only [dayB, Bool.and_eq_true, decide_eq_true_eq]; omega)
    have hn := hb.n
    refine ⟨⟨?_, ?_⟩, hb.c⟩
    · show 0 ≤ (qF S i).1 + (brings S.t.parts S.t.basis S.t.prin (qF S i).2 (S.t.start + i)).1; omega
    · show (qF S i).1 + (brings S.t.parts S.t.basis S.t.prin (qF S i).2 (S.t.start + i)).1 ≤ _; omega
theorem i64add {a b : Int} (h1 : -9000000000000000000 ≤ a + b) (h2 : a + b ≤ 9000000000000000000) : IntKind.i64.wrap (a + b) = a + b := i64w h1 h2
set_option maxHeartbeats 4000000 in
set_option maxRecDepth 20000 in
theorem quietWalk (t : Tm) (hin : TmIn t) (dn : Int) (hd : inK .u16 dn) (w : World) (M I : BS) (hM : ∀ b, ¬ M b) (H : Hp ⟨w, M, I⟩ [] [LibF] w) :
    Ctr Tryz.prog 3 [tmV t, .int .u16 dn] w M I (fun _ : Unit => .bool true) (fun _ => True) (fun _ => []) (fun _ => []) := by
  have hd0 : 0 ≤ dn := hd.1
  refine Exe.of_ev tok Tryz.call3 Tryz.func3 rfl rfl rfl ?_
  refine box_as H (tmC t) rfl fun r w1 H1 => ?_
  refine call_rule H1 (fun M I h0 h => awake17 _ M I (h0 rfl) h) fun _ w2 _ H2 => ?_
  refine load_rule tok H2 (v := tmV t) rfl ?_
  refine call_rule H2 (fun M I _ h => ownTm t hin _ M I h) fun _ w3 _ H3 => ?_
  refine call_rule H3 (fun M I _ h => refRight t hin _ M I h) fun _ w4 _ H4 => ?_
  refine br (fun q => ?_) (fun q => ?_)
  · exact Exists.intro () (And.intro rfl (And.intro trivial (Hp.keep H4)))
  have q : rtB t = true := by have q : (!rtB t) = false := q; simpa using q
  have hb : tmB t = true := by rw [← rtB_eq]; exact q
  have ok := tmB_iff.1 hb
  have hst := ok.start
  have hpr := ok.prin
  have hfe := ok.fee
  have hgr := ok.grace
  have H4 : Hp ⟨w, M, I⟩ [blk r (tmC t) 28] [Sl dayR (.slice none 0 0) [], Sl evR (.slice none 0 0) [], LibF] w4 := Hp.keep (Hp.slNil dayR (Hp.slNil evR H4))
  refine load_rule tok H4 (v := tmV t) rfl ?_
  refine call_rule H4 (fun M I h0 h => storyNew 1 t hin none 0 0 [] hb (by decide) _ M I (h0 rfl) h) fun a w5 ha H5 => ?_
  have hS := sto_ok (loan := 1) hin ok ha
  have hrise := (dues_rise hin ok ha).2.1
  refine Exists.elim (show ∃ S : Sto, S = ⟨1, t, a.2.2⟩ from ⟨_, rfl⟩) fun S eS => ?_
  rw [← eS] at hS
  have hSt : S.t = t := by rw [eS]
  have hSd : S.dues = a.2.2 := by rw [eS]
  have hrise' : ∀ (k : Nat) (x y : Int × Int), S.dues[k]? = some x → S.dues[k + 1]? = some y → x.1 ≤ y.1 := fun k x y hx hy => (hrise k x y (hSd ▸ hx) (hSd ▸ hy)).1
  have H5 : Hp ⟨w, M, I⟩ [blk a.1 (stoC S a.2.1) 120, blk r (tmC t) 28] [Sl dueR (.slice a.2.1.A a.2.1.n a.2.1.c) S.dues, Sl evR (.slice none 0 0) [], LibF] w5 := by
    rw [eS]
    exact Hp.keep H5
  refine Exists.elim (show ∃ k : Nat, (k : Int) = dn % 130 from ⟨(dn % 130).toNat, by omega⟩) fun k ek => ?_
  have hk : k < 130 := by omega
  have er : dn.tmod 130 = (k : Int) := by rw [Int.tmod_eq_emod_of_nonneg hd0]; omega
  refine rem_as ((k : Nat) : Int) (by decide) er ?_
  have e64 : IntKind.i64.wrap (k : Int) = (k : Int) := i64w (by omega) (by omega)
  have eth : IntKind.i32.wrap (t.start + IntKind.i32.wrap (IntKind.i64.wrap (k : Int))) = t.start + (k : Int) := by rw [e64, i32w (n := (k : Int)) (by omega) (by omega)]; exact i32w (by omega) (by omega)
  refine load_rule tok H5 (v := .int .i32 t.start) rfl ?_
  refine call_rule H5 (fun M I _ h => eth.symm ▸ tell a.1 S hS a.2.1 none 0 0 [] (by decide) (fun e he => by cases he) (t.start + (k : Int)) (by rw [hSt]; omega) (by omega) _ M I h) fun x w6 hx H6 => ?_
  have hmn : mn (t.start + (k : Int)) 3640000 = t.start + (k : Int) := by unfold mn; rw [if_neg (by omega)]
  have hq : Quiet S (k + 1) (tellF S (S.t.start + k) []) := quiet_tell hS k
  have hx1 : x.1 = (tellF S (S.t.start + k) []).x := by
    obtain ⟨l, h1, h2, h3, h4⟩ := hx
    have e2 : l = [] := h1.eq_nil
    rw [eth, hmn, e2] at h3
    rw [hSt]; exact h3
  have hxf : x.1.fees = lawFee t (t.start + k) S.dues := by rw [hx1, quiet_fees hS hrise' hq, hSt]
  have hxi : x.1.int = (qF S (k + 1)).1 := by rw [hx1]; exact hq.int
  have hxc : x.1.carry = (qF S (k + 1)).2 := by rw [hx1]; exact hq.carry
  have hxp : x.1.prin = t.prin := by rw [hx1, hq.prin, hSt]
  have hxca : x.1.cash = 0 := by rw [hx1]; exact hq.cash
  have hxs : x.1.status = 1 := by rw [hx1]; exact hq.status
  have hqs : ∀ i : Nat, qF S (i + 1) = ((qF S i).1 + (brings t.parts t.basis t.prin (qF S i).2 (t.start + i)).1, (brings t.parts t.basis t.prin (qF S i).2 (t.start + i)).2) := fun i => by rw [qF, hSt]
  have hqb : ∀ i : Nat, i ≤ 131 → (0 ≤ (qF S i).1 ∧ (qF S i).1 ≤ 10000000000 * (i : Int)) ∧ (0 ≤ (qF S i).2 ∧ (qF S i).2 < (unitN t.basis : Int)) := fun i hi => by
    have := qF_bd hS i (by rw [hSt]; omega)
    rw [hSt] at this
    exact this
  have hrd : ∀ i : Nat, i ≤ 130 → CB 15 [rrV t.parts (t.basis == 2), .int .i64 t.prin, .int .i64 (IntKind.i64.wrap (t.start + i)), .int .u64 (qF S i).2] (.tuple #[.int .i64 (brings t.parts t.basis t.prin (qF S i).2 (t.start + i)).1, .int .u64 (brings t.parts t.basis t.prin (qF S i).2 (t.start + i)).2]) := fun i hi => by
    rw [i64w (n := t.start + i) (by omega) (by omega)]
    exact refDay t.parts t.basis t.prin (qF S i).2 (t.start + i) hin.parts.1 ok.parts (by omega) hpr.2 (by omega) (by omega) (hqb i (by omega)).2.1 (hqb i (by omega)).2.2
  have hlen := hS.len
  refine alloc_as tok H6 (stC st0) rfl rfl rfl fun z w7 H7 => ?_
  refine store_as tok H7 (stC x.1) rfl rfl rfl rfl rfl fun w8 H8 => ?_
  have H8 : Hp ⟨w, M, I⟩ [blk z (stC x.1) 44, blk a.1 (stoC S a.2.1) 120, blk r (tmC t) 28] [Sl dueR (.slice a.2.1.A a.2.1.n a.2.1.c) S.dues] w8 := Hp.keep H8
  refine load_rule tok H8 (v := .int .i32 t.start) rfl ?_
  refine loop_rule tok (σ := Nat) 590295528883729004544 (fun i => [(13, .int .i32 (t.start + i)), (11, .int .i64 (qF S i).1), (12, .int .u64 (qF S i).2)]) (fun i w' => i ≤ k + 1 ∧ Hp ⟨w, M, I⟩ [blk z (stC x.1) 44, blk a.1 (stoC S a.2.1) 120, blk r (tmC t) 28] [Sl dueR (.slice a.2.1.A a.2.1.n a.2.1.c) S.dues] w') (fun i => k + 1 - i) 0 rfl rfl ⟨congrArg (Value.int .i32) (Int.add_zero _).symm, rfl, rfl, trivial⟩ ⟨Nat.zero_le _, H8⟩ ?_
  intro i j w9 hW
  have hik := hW.1
  have H9 := hW.2
  refine brd (fun q2 => ?_) (fun q2 => ?_)
  · rw [eth] at q2
    have hi : i ≤ k := by omega
    have b1 := hqb i (by omega)
    have b2 := hqb (i + 1) (by omega)
    rw [hqs i] at b2
    have ed2 : IntKind.i32.wrap (t.start + (i : Int) + 1) = t.start + ((i + 1 : Nat) : Int) := by rw [i32w (by omega) (by omega)]; omega
    have es : IntKind.i64.wrap ((qF S i).1 + (brings t.parts t.basis t.prin (qF S i).2 (t.start + i)).1) = (qF S (i + 1)).1 := by rw [hqs i]; exact i64w (by have := b2.1.1; simp only at this; omega) (by have := b2.1.2; simp only at this; omega)
    refine draw_rule (A := []) tok tdr H9 [0, 1, 2, 3, 4, 5, 6, 7, 8, 9, 10, 11, 12, 13] [0, 1, 3, 0, 8, 0, 32, 0, 255, 511, 1023, 1023, 2047, 8191] rfl ?_
    refine pass_rule _ (fun w h => load_rule tok h (v := tmV t) rfl ⟨rfl, rfl⟩) ?_
    refine imp_rule (fun X wx h => call_rule h (fun M I _ h => ownTm t hin _ M I h) fun _ w1 _ H1 => imp_done H1 ?_)
    refine imp_rule (fun X wx h => call_rule h (fun M I _ h => refRate t _ M I h) fun _ w1 _ H1 => imp_done H1 ?_)
    refine pass_rule _ (fun w h => load_rule tok h (v := .int .i64 t.prin) rfl ⟨rfl, rfl⟩) ?_
    refine imp_rule (fun X wx h => call_rule h (fun M I _ h => hrd i (by omega) _ M I h) fun _ w1 _ H1 => imp_done H1 ?_)
    refine done_rule fun wa Ha => ?_
    refine Exists.intro (i + 1) (And.intro ⟨congrArg (Value.int .i32) ed2, congrArg (Value.int .i64) es, congrArg (Value.int .u64) (by rw [hqs i]), trivial⟩ (And.intro ?_ ⟨?_, Hp.keep Ha⟩))
    · show k + 1 - (i + 1) < k + 1 - i
      omega
    · omega
  rw [eth] at q2
  have hi : i = k + 1 := by omega
  refine call_rule H9 (fun M I _ h => storyDues a.1 S hS a.2.1 _ M I h) fun g wa _ Ha => ?_
  have hgn := Ha.sll (A := g.A) (n := g.n) (c := g.c) (r := dueR) (xs := S.dues)
  have Ha : Hp ⟨w, M, I⟩ [blk z (stC x.1) 44, blk r (tmC t) 28] [Sl dueR (.slice g.A g.n g.c) S.dues] wa := Hp.keep Ha
  refine loop_rule tok (σ := Nat) 19807035906199601528741101568 (fun j => [(72, .int .i64 (j : Int)), (16, .int .i64 (lawFee t (t.start + k) (S.dues.take j)))]) (fun j w' => j ≤ S.dues.length ∧ Hp ⟨w, M, I⟩ [blk z (stC x.1) 44, blk r (tmC t) 28] [Sl dueR (.slice g.A g.n g.c) S.dues] w') (fun j => S.dues.length - j) 0 rfl rfl ⟨rfl, rfl, trivial⟩ ⟨Nat.zero_le _, Ha⟩ ?_
  intro m j2 wb hW2
  have hml := hW2.1
  have Hb := hW2.2
  have hfb := lawFee_bd (t := t) (th := t.start + k) hfe (S.dues.take m)
  have htl : (S.dues.take m).length ≤ 480 := by rw [List.length_take]; omega
  have em : IntKind.i64.wrap ((m : Int) + 1) = ((m + 1 : Nat) : Int) := w64 (by omega) (by omega)
  refine brd (fun q3 => ?_) (fun q3 => ?_)
  · refine idx_rule tok Hb rfl rfl rfl (Int.natCast_nonneg m) q3 fun eb eo d hd Hc => ?_
    have hd : S.dues[m]? = some d := hd
    have hdd := hS.days d (List.mem_of_getElem? hd)
    have htk := lawFee_take t (t.start + k) hd
    have eg : IntKind.i32.wrap (d.1 + IntKind.i32.wrap t.grace) = d.1 + t.grace := by rw [i32w (n := t.grace) (by omega) (by omega)]; exact i32w (by omega) (by omega)
    refine ldp_rule tok Hc rfl rfl rfl fun _ _ Hd => ?_
    refine alloc_as tok Hd [.int .i32 0, .int .i64 0] rfl rfl rfl fun y wd He => ?_
    refine store_as tok He (dueC d) rfl rfl rfl rfl rfl fun we Hf => ?_
    refine load_rule tok Hf (v := .int .i32 d.1) rfl ?_
    refine load_rule tok Hf (v := .int .i64 t.grace) rfl ?_
    refine brd (fun q4 => ?_) (fun q4 => ?_)
    · rw [eg, eth] at q4
      refine load_rule tok Hf (v := .int .i64 d.2) rfl ?_
      refine brd (fun q5 => ?_) (fun q5 => ?_)
      · rw [if_pos ⟨q4, q5⟩] at htk
        have ef : IntKind.i64.wrap (lawFee t (t.start + k) (S.dues.take m) + t.fee) = lawFee t (t.start + k) (S.dues.take (m + 1)) := by rw [htk]; exact i64w (by omega) (by omega)
        refine load_rule tok Hf (v := .int .i64 t.fee) rfl ?_
        refine Exists.intro (m + 1) (And.intro ⟨congrArg (Value.int .i64) em, congrArg (Value.int .i64) ef, trivial⟩ (And.intro ?_ ⟨?_, Hp.keep Hf⟩))
        · show S.dues.length - (m + 1) < S.dues.length - m
          omega
        · omega
      · rw [if_neg (fun hh => q5 hh.2), Int.add_zero] at htk
        refine Exists.intro (m + 1) (And.intro ⟨congrArg (Value.int .i64) em, congrArg (Value.int .i64) htk.symm, trivial⟩ (And.intro ?_ ⟨?_, Hp.keep Hf⟩))
        · show S.dues.length - (m + 1) < S.dues.length - m
          omega
        · omega
    · rw [eg, eth] at q4
      rw [if_neg (fun hh => q4 hh.1), Int.add_zero] at htk
      refine Exists.intro (m + 1) (And.intro ⟨congrArg (Value.int .i64) em, congrArg (Value.int .i64) htk.symm, trivial⟩ (And.intro ?_ ⟨?_, Hp.keep Hf⟩))
      · show S.dues.length - (m + 1) < S.dues.length - m
        omega
      · omega
  have hm : m = S.dues.length := by omega
  have hall : S.dues.take m = S.dues := by rw [hm]; exact List.take_length
  refine load_rule tok Hb (v := owV x.1.fees x.1.int x.1.prin) rfl ?_
  refine load_rule tok Hb (v := .int .i64 t.prin) rfl ?_
  refine eq_struct tok (r := x.1.fees == lawFee t (t.start + k) (S.dues.take m) && (x.1.int == (qF S i).1 && (x.1.prin == t.prin && true))) rfl guard41 held41 rfl ?_
  have h1 : (x.1.fees == lawFee t (t.start + k) (S.dues.take m) && (x.1.int == (qF S i).1 && (x.1.prin == t.prin && true))) = true := by rw [hall, hxf, hi, hxi, hxp]; simp
  refine br (fun _ => ?_) (fun q4 => ?_)
  · refine load_rule tok Hb (v := .int .u64 x.1.carry) rfl ?_
    have h2 : (x.1.carry == (qF S i).2) = true := by rw [hi, hxc]; simp
    refine br (fun _ => ?_) (fun q5 => ?_)
    · refine load_rule tok Hb (v := .int .i64 x.1.cash) rfl ?_
      refine br (fun _ => ?_) (fun q6 => ?_)
      · refine load_rule tok Hb (v := .int .u8 x.1.status) rfl ?_
        refine Exists.intro () (And.intro (congrArg Value.bool ?_) (And.intro trivial (Hp.keep Hb)))
        show (x.1.status == 1) = true
        rw [hxs]; rfl
      · exfalso
        have q6 : (x.1.cash == 0) = false := q6
        rw [hxca] at q6
        cases q6
    · exact absurd (h2.symm.trans q5) (by decide)
  · exact absurd (h1.symm.trans q4) (by decide)
end Go.Proofs.YtjlfjjgjghdokaaGreatDoor
