/- A story, told day by day: the plain function, and how far its sums go. -/
import Derived.Test.YtjlfjjgjghdokaaGreatDoorE9
set_option linter.unusedVariables false
namespace Go.Proofs.YtjlfjjgjghdokaaGreatDoor
open Go Go.Proofs Go.Wk
/-- There is such a date. -/
theorem dat_ex : ∀ n : Nat, n ≤ 3652058 → ∃ y m d, Dat y m d ∧ numD y m d = (n : Int)
  | 0, _ => ⟨1, 1, 1, ⟨by decide, by decide, by decide, by decide, by decide, by decide⟩, by decide⟩
  | n + 1, h => by
    obtain ⟨y, m, d, hD, e⟩ := dat_ex n (by omega)
    have hm := off_succ (y := y) hD.m1 hD.m2
    by_cases hd : d < lenM y m
    · exact ⟨y, m, d + 1, ⟨hD.y1, hD.y2, hD.m1, hD.m2, by have := hD.d1; omega, by omega⟩, by unfold numD at e ⊢; omega⟩
    · have hdl : d = lenM y m := by have := hD.d2; omega
      by_cases h12 : m = 12
      · have hoe := off_end (y := y)
        have hbs := beg_succ hD.y1
        have hl : lenM y 12 = 31 := rfl
        subst h12
        by_cases hy : y = 9999
        · exfalso
          have ht : beg (9999 + 1) = 3652059 := beg_top
          subst hy
          unfold numD at e
          rw [show (12 : Int) + 1 = 13 by decide, hoe] at hm
          omega
        · have ho := off_one (y + 1)
          exact ⟨y + 1, 1, 1, ⟨by have := hD.y1; omega, by have := hD.y2; omega, by decide, by decide, by decide, by have := (len_pos (y := y + 1) (m := 1)).1; omega⟩, by unfold numD at e ⊢; rw [show (12 : Int) + 1 = 13 by decide, hoe] at hm; omega⟩
      · exact ⟨y, m + 1, 1, ⟨hD.y1, hD.y2, by have := hD.m1; omega, by have := hD.m2; omega, by decide, by have := (len_pos (y := y) (m := m + 1)).1; omega⟩, by unfold numD at e ⊢; omega⟩
theorem one_ex {b n : Int} (h : dayB n = true) : ∃ r, OneR b n r := by
  simp only [dayB, Bool.and_eq_true, decide_eq_true_eq] at h
  obtain ⟨y, m, d, h1, h2⟩ := dat_ex n.toNat (by omega)
  exact ⟨_, ⟨⟨y, m, d, h1, by rw [h2]; omega, rfl⟩⟩⟩
structure BrB (b : Int) (a : Int × Int) : Prop where
  n : 0 ≤ a.1 ∧ a.1 ≤ 10000000000
  c : 0 ≤ a.2 ∧ a.2 < (unitN b : Int)
theorem brings_bd {parts b prin carry n : Int} (h0 : 0 ≤ parts ∧ parts ≤ 1000000) (hp : 0 ≤ prin ∧ prin ≤ 1000000000000) (hc : 0 ≤ carry ∧ carry < (unitN b : Int)) (hn : dayB n = true) : BrB b (brings parts b prin carry n) := by
  obtain ⟨r, hr⟩ := one_ex (b := b) hn
  have hd : DayR parts.toNat b prin.toNat carry.toNat n (dayX parts.toNat prin.toNat r.toNat carry.toNat / unitN b, dayX parts.toNat prin.toNat r.toNat carry.toNat % unitN b) := ⟨⟨r, hr, rfl⟩⟩
  have e := brings_of hd
  rw [show ((parts.toNat : Nat) : Int) = parts by omega, show ((prin.toNat : Nat) : Int) = prin by omega, show ((carry.toNat : Nat) : Int) = carry by omega] at e
  have b1 := hd.bd (by omega) (by omega) (by omega)
  have b2 := hd.carry
  rw [e]
  refine ⟨⟨?_, ?_⟩, ?_, ?_⟩
  · exact Int.natCast_nonneg _
  · exact Int.ofNat_le.2 b1
  · exact Int.natCast_nonneg _
  · exact Int.ofNat_lt.2 b2
/-- The events up to a day. -/
def eatF (S : Sto) (day : Int) : List Ev → St → St × List Ev × List (Key × List Leg)
  | [], x => (x, [], [])
  | e :: r, x => if e.day ≤ day then (if e.day = day then ((eatF S day r (eventF x e).1).1, (eatF S day r (eventF x e).1).2.1, entOf S day e (eventF x e).2 ++ (eatF S day r (eventF x e).1).2.2) else eatF S day r x) else (x, e :: r, [])
structure TS where
  x : St
  next : Nat
  l : List Ev
  E : List (Key × List Leg)
def boardF (S : Sto) (day : Int) (s : TS) : TS := if day = S.t.start then ⟨{ s.x with prin := S.t.prin, status := 1 }, s.next, s.l, s.E ++ [(⟨S.loan, day, 1, 0⟩, refMade [⟨2, S.t.prin⟩, ⟨1, -S.t.prin⟩])]⟩ else s
def ateF (S : Sto) (day : Int) (s : TS) : TS := ⟨(eatF S day s.l s.x).1, s.next, (eatF S day s.l s.x).2.1, s.E ++ (eatF S day s.l s.x).2.2⟩
noncomputable def sleepF (S : Sto) (day : Int) (s : TS) : TS := ⟨(nightF S day s.x s.next).1, (nightF S day s.x s.next).2.1, s.l, s.E ++ (nightF S day s.x s.next).2.2⟩
noncomputable def oneDay (S : Sto) (th day : Int) (s : TS) : TS := if day ≤ th then sleepF S day (ateF S day (boardF S day s)) else ateF S day (boardF S day s)
noncomputable def daysF (S : Sto) (th : Int) (s0 : TS) : Nat → TS
  | 0 => s0
  | i + 1 => oneDay S th (S.t.start + i) (daysF S th s0 i)
@[reducible] def st0 : St := ⟨0, 0, 0, 0, 0, 0, 0, 0, 0⟩
noncomputable def tellF (S : Sto) (th : Int) (l : List Ev) : TS := daysF S th ⟨st0, 0, l, []⟩ (th + 2 - S.t.start).toNat
/-! How far it goes. -/
theorem StB.mono {S : Sto} {k k' : Int} {x : St} (h : StB S k x) (hk : k ≤ k') : StB S k' x := ⟨⟨h.fees.1, by have := h.fees.2; omega⟩, ⟨h.int.1, by have := h.int.2; omega⟩, h.prin, h.carry, ⟨h.paid.1, by have := h.paid.2; omega⟩, ⟨h.susp.1, by have := h.susp.2; omega⟩, ⟨h.recv.1, by have := h.recv.2; omega⟩, ⟨h.cash.1, by have := h.cash.2; omega⟩⟩
theorem close_bd {S : Sto} {k : Int} {x : St} (h : StB S k x) : StB S k (closeF x) := by
  unfold closeF
  split
  · exact ⟨h.fees, h.int, h.prin, h.carry, h.paid, h.susp, h.recv, h.cash⟩
  · exact h
def EvA (e : Ev) : Prop := 0 ≤ e.amt ∧ e.amt ≤ 1000000000000
theorem pay_StB {S : Sto} {k n : Int} {x : St} (h : StB S k x) (hn : 0 ≤ n ∧ n ≤ 1000000000000) : StB S (k + 1000000000000) (payF x n) := by
  have h1 := h.fees; have h2 := h.int; have h3 := h.prin; have h4 := h.paid; have h5 := h.susp; have h6 := h.recv; have h7 := h.cash
  have pb := pay_bd h1.1 h2.1 h3.1 hn.1
  have b1 := pb.hf; have b2 := pb.hi; have b3 := pb.hp; have b4 := pb.hl; have b5 := pb.hs
  unfold payF
  split
  · exact ⟨⟨h1.1, by show x.fees ≤ _; omega⟩, ⟨h2.1, by show x.int ≤ _; omega⟩, h3, h.carry, ⟨h4.1, by show x.paid ≤ _; omega⟩, ⟨h5.1, by show x.susp ≤ _; omega⟩, ⟨by show 0 ≤ x.recv + n; omega, by show x.recv + n ≤ _; omega⟩, ⟨by show 0 ≤ x.cash + n; omega, by show x.cash + n ≤ _; omega⟩⟩
  · exact ⟨⟨by show 0 ≤ x.fees - _; omega, by show x.fees - _ ≤ _; omega⟩, ⟨by show 0 ≤ x.int - _; omega, by show x.int - _ ≤ _; omega⟩, ⟨by show 0 ≤ x.prin - _; omega, by show x.prin - _ ≤ _; omega⟩, h.carry, ⟨by show 0 ≤ x.paid + (_ + _); omega, by show x.paid + (_ + _) ≤ _; omega⟩, ⟨by show 0 ≤ x.susp + _; omega, by show x.susp + _ ≤ _; omega⟩, ⟨h6.1, by show x.recv ≤ _; omega⟩, ⟨by show 0 ≤ x.cash + n; omega, by show x.cash + n ≤ _; omega⟩⟩
theorem event_StB {S : Sto} {k : Int} {x : St} {e : Ev} (h : StB S k x) (ha : EvA e) : StB S (k + 1000000000000) (eventF x e).1 := by
  have h1 := h.fees; have h2 := h.int; have h3 := h.prin
  have hx := h.mono (k' := k + 1000000000000) (by omega)
  have ha1 := ha.1
  have ha2 := ha.2
  have hk : 0 ≤ k := by omega
  unfold eventF
  split
  · exact close_bd (pay_StB h ha)
  · split
    · exact hx
    · split
      · refine close_bd ⟨⟨?_, ?_⟩, hx.int, hx.prin, hx.carry, hx.paid, hx.susp, hx.recv, hx.cash⟩
        · show 0 ≤ x.fees + e.amt; omega
        · show x.fees + e.amt ≤ _; omega
      · split
        · have hm := mn_bd h1.1 ha1
          refine close_bd ⟨⟨?_, ?_⟩, hx.int, hx.prin, hx.carry, hx.paid, hx.susp, hx.recv, hx.cash⟩
          · show 0 ≤ x.fees - mn x.fees e.amt; omega
          · show x.fees - mn x.fees e.amt ≤ _; omega
        · split
          · refine close_bd (x := { x with fees := 0, int := 0, prin := 0, status := 3 }) ⟨⟨?_, ?_⟩, ⟨?_, ?_⟩, ⟨?_, ?_⟩, hx.carry, hx.paid, hx.susp, hx.recv, hx.cash⟩
            · exact Int.le_refl 0
            · show 0 ≤ k + 1000000000000; omega
            · exact Int.le_refl 0
            · show 0 ≤ k + 1000000000000; omega
            · exact Int.le_refl 0
            · show (0 : Int) ≤ 1000000000000; decide
          · exact close_bd hx
theorem night_StB {S : Sto} (hS : StoOk S) {k day : Int} {x : St} {next : Nat} (h : StB S k x) (hd : dayB day = true) : StB S (k + 1000000000000) (nightF S day x next).1 := by
  have hx := h.mono (k' := k + 1000000000000) (by omega)
  have h1 := h.fees; have h2 := h.int
  have hb := brings_bd (b := S.t.basis) ⟨hS.tin.parts.1, hS.ok.parts⟩ h.prin h.carry hd
  have b1 := hb.n
  have hl := lateGo_bd S.t S.loan day x.paid hS.ok.fee (S.dues.drop next) next x.fees
  have hn : (S.dues.drop next).length ≤ 480 := by rw [List.length_drop]; have := hS.len; omega
  unfold nightF
  split
  · refine ⟨⟨?_, ?_⟩, ⟨?_, ?_⟩, hx.prin, hb.c, hx.paid, hx.susp, hx.recv, hx.cash⟩
    · show 0 ≤ (lateGo S.t S.loan day x.paid (S.dues.drop next) next x.fees).2.1; omega
    · show (lateGo S.t S.loan day x.paid (S.dues.drop next) next x.fees).2.1 ≤ _; omega
    · show 0 ≤ x.int + (brings S.t.parts S.t.basis x.prin x.carry day).1; omega
    · show x.int + (brings S.t.parts S.t.basis x.prin x.carry day).1 ≤ _; omega
  · exact hx
theorem night_len {S : Sto} (hS : StoOk S) {day : Int} {x : St} {next : Nat} (hn : next ≤ S.dues.length) : (nightF S day x next).2.1 ≤ S.dues.length ∧ (nightF S day x next).2.2.length ≤ 481 := by
  have hl := lateGo_bd S.t S.loan day x.paid hS.ok.fee (S.dues.drop next) next x.fees
  rw [List.length_drop] at hl
  have := hS.len
  unfold nightF
  split
  · simp only [List.length_append, List.length_cons, List.length_nil]; omega
  · simp only [List.length_nil]; omega
theorem ent_len (S : Sto) (day : Int) (e : Ev) (o : Option (List Leg)) : (entOf S day e o).length ≤ 1 := by cases o <;> simp [entOf]
structure EatB (S : Sto) (k : Int) (l : List Ev) (q : St × List Ev × List (Key × List Leg)) : Prop where
  st : StB S (k + 1000000000000 * (l.length : Int)) q.1
  left : q.2.1.length ≤ l.length ∧ ∀ e, e ∈ q.2.1 → EvA e
  ents : q.2.2.length ≤ l.length
theorem eat_bd {S : Sto} {day : Int} : ∀ (l : List Ev) (x : St) (k : Int), (∀ e, e ∈ l → EvA e) → StB S k x → EatB S k l (eatF S day l x)
  | [], x, k, _, hx => ⟨by rw [List.length_nil]; exact hx.mono (by omega), ⟨Nat.le_refl _, fun e h => by cases h⟩, Nat.le_refl _⟩
  | e :: r, x, k, ha, hx => by
    have har : ∀ e, e ∈ r → EvA e := fun e h => ha e (List.mem_cons_of_mem _ h)
    unfold eatF
    split
    · split
      · have ih := eat_bd (day := day) r (eventF x e).1 (k + 1000000000000) har (event_StB hx (ha e List.mem_cons_self))
        have hl := ent_len S day e (eventF x e).2
        refine ⟨ih.st.mono (by rw [List.length_cons]; omega), ⟨Nat.le_trans ih.left.1 (by rw [List.length_cons]; omega), ih.left.2⟩, ?_⟩
        have := ih.ents
        rw [List.length_append, List.length_cons]; omega
      · have ih := eat_bd (day := day) r x k har hx
        exact ⟨ih.st.mono (by rw [List.length_cons]; omega), ⟨Nat.le_trans ih.left.1 (by rw [List.length_cons]; omega), ih.left.2⟩, by have := ih.ents; rw [List.length_cons]; omega⟩
    · exact ⟨hx.mono (by omega), ⟨Nat.le_refl _, ha⟩, Nat.zero_le _⟩
structure TsB (S : Sto) (i : Nat) (s : TS) : Prop where
  x : StB S (20000000000000 * (i : Int)) s.x
  next : s.next ≤ S.dues.length
  l : s.l.length ≤ 19 ∧ ∀ e, e ∈ s.l → EvA e
  E : s.E.length ≤ 501 * i
/-- After the boarding, after the day's events. -/
structure MidB (S : Sto) (i : Nat) (s : TS) : Prop where
  x : StB S (20000000000000 * (i : Int) + 19000000000000) s.x
  next : s.next ≤ S.dues.length
  l : s.l.length ≤ 19 ∧ ∀ e, e ∈ s.l → EvA e
  E : s.E.length ≤ 501 * i + 20
theorem board_bd {S : Sto} (hS : StoOk S) {i : Nat} {day : Int} {s : TS} (h : TsB S i s) : TsB S i ⟨(boardF S day s).x, (boardF S day s).next, (boardF S day s).l, s.E⟩ ∧ (boardF S day s).E.length ≤ s.E.length + 1 := by
  have hp := hS.ok.prin
  unfold boardF
  split
  · refine ⟨⟨⟨h.x.fees, h.x.int, ⟨by show 0 ≤ S.t.prin; omega, hp.2⟩, h.x.carry, h.x.paid, h.x.susp, h.x.recv, h.x.cash⟩, h.next, h.l, h.E⟩, ?_⟩
    simp
  · exact ⟨h, Nat.le_add_right _ _⟩
theorem ate_bd {S : Sto} (hS : StoOk S) {i : Nat} {day : Int} {s : TS} (h : TsB S i s) : MidB S i (ateF S day (boardF S day s)) := by
  obtain ⟨hb, he⟩ := board_bd hS (day := day) h
  have h1 := eat_bd (day := day) (boardF S day s).l (boardF S day s).x _ hb.l.2 hb.x
  have hll : (boardF S day s).l.length ≤ 19 := hb.l.1
  have hE := h.E
  have h1E := h1.ents
  have h1l := h1.left.1
  refine ⟨h1.st.mono (by omega), hb.next, ⟨?_, h1.left.2⟩, ?_⟩
  · show (eatF S day (boardF S day s).l (boardF S day s).x).2.1.length ≤ 19
    omega
  · show ((boardF S day s).E ++ (eatF S day (boardF S day s).l (boardF S day s).x).2.2).length ≤ _
    rw [List.length_append]; omega
theorem oneDay_bd {S : Sto} (hS : StoOk S) {i : Nat} {th day : Int} {s : TS} (h : TsB S i s) (hd : day ≤ th → dayB day = true) : TsB S (i + 1) (oneDay S th day s) := by
  have hm := ate_bd hS (day := day) h
  have hE := hm.E
  unfold oneDay
  split
  · rename_i hle
    have hn := night_StB hS (next := (ateF S day (boardF S day s)).next) hm.x (hd hle)
    have hl := night_len hS (day := day) (x := (ateF S day (boardF S day s)).x) hm.next
    refine ⟨hn.mono (by rw [Int.natCast_add]; omega), hl.1, hm.l, ?_⟩
    show ((ateF S day (boardF S day s)).E ++ (nightF S day (ateF S day (boardF S day s)).x (ateF S day (boardF S day s)).next).2.2).length ≤ _
    rw [List.length_append]; omega
  · exact ⟨hm.x.mono (by rw [Int.natCast_add]; omega), hm.next, hm.l, by omega⟩
theorem days_bd {S : Sto} (hS : StoOk S) {th : Int} (hth : th ≤ 3640000) {l : List Ev} (hl : l.length ≤ 19) (ha : ∀ e, e ∈ l → EvA e) : ∀ i : Nat, TsB S i (daysF S th ⟨st0, 0, l, []⟩ i)
  | 0 => by
    have hu := unit_bd S.t.basis
    have h0 : (0 : Int) ≤ 0 ∧ (0 : Int) ≤ 20000000000000 * ((0 : Nat) : Int) := by decide
    exact ⟨⟨h0, h0, by show (0 : Int) ≤ 0 ∧ (0 : Int) ≤ 1000000000000; decide, ⟨Int.le_refl 0, by show (0 : Int) < _; omega⟩, h0, h0, h0, h0⟩, Nat.zero_le _, ⟨hl, ha⟩, Nat.le_refl _⟩
  | i + 1 => by
    have ih := days_bd hS hth hl ha i
    exact oneDay_bd hS ih fun h => by
      have h1 := hS.ok.start
      simp only [dayB, Bool.and_eq_true, decide_eq_true_eq]; omega
end Go.Proofs.YtjlfjjgjghdokaaGreatDoor
