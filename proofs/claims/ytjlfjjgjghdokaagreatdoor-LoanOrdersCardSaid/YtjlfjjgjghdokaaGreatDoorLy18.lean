/- A story, told day by day: the plain function, and how far its sums go. -/
import Derived.Test.YtjlfjjgjghdokaaGreatDoorLy17
set_option linter.unusedVariables false
namespace Go.Proofs.YtjlfjjgjghdokaaGreatDoor
open Go Go.Proofs Go.Wk
/-- There is such a date. -/
theorem dat_ex : ∀ n : Nat, n ≤ 3652058 → ∃ y m d, Dat y m d ∧ numD y m d = (n : Int)
  | 0, _ => ⟨1, 1, 1, ⟨by decide, by decide, by decide, by decide, by decide, by decide⟩, by decide⟩
  | n + 1, h => by
    obtain ⟨y, m, d, hD, e⟩ := dat_ex n (by omega)
    have hm := off_succ (y := y) hD.m1 hD.m2
    by_cases hd : d < lenM y m
    · exact ⟨y, m, d + 1, ⟨hD.y1, hD.y2, hD.m1, hD.m2, by have := hD.d1; omega, by omega⟩, by unfold numD at e ⊢; omega⟩
    · have hdl : d = lenM y m := by have := hD.d2; omega
      by_cases h12 : m = 12
      · have hoe := off_end (y := y)
        have hbs := beg_succ hD.y1
        have hl : lenM y 12 = 31 := rfl
        subst h12
        by_cases hy : y = 9999
        · exfalso
          have ht : beg (9999 + 1) = 3652059 := beg_top
          subst hy
          unfold numD at e
          rw [show (12 : Int) + 1 = 13 by decide, hoe] at hm
          omega
        · have ho := off_one (y + 1)
          exact ⟨y + 1, 1, 1, ⟨by have := hD.y1; omega, by have := hD.y2; omega, by decide, by decide, by decide, by have := (len_pos (y := y + 1) (m := 1)).1; omega⟩, by unfold numD at e ⊢; rw [show (12 : Int) + 1 = 13 by decide, hoe] at hm; omega⟩
      · exact ⟨y, m + 1, 1, ⟨hD.y1, hD.y2, by have := hD.m1; omega, by have := hD.m2; omega, by decide, by have := (len_pos (y := y) (m := m + 1)).1; omega⟩, by unfold numD at e ⊢; omega⟩
theorem one_ex {b n : Int} (h : dayB n = true) : ∃ r, OneR b n r := by
  simp only [dayB, Bool.and_eq_true, decide_eq_true_eq] at h
  obtain ⟨y, m, d, h1, h2⟩ := dat_ex n.toNat (by omega)
  exact ⟨_, ⟨⟨y, m, d, h1, by rw [h2]; omega, rfl⟩⟩⟩
structure BrB (b : Int) (a : Int × Int) : Prop where
  n : 0 ≤ a.1 ∧ a.1 ≤ 10000000000
  c : 0 ≤ a.2 ∧ a.2 < (unitN b : Int)
theorem brings_bd {parts b prin carry n : Int} (h0 : 0 ≤ parts ∧ parts ≤ 1000000) (hp : 0 ≤ prin ∧ prin ≤ 1000000000000) (hc : 0 ≤ carry ∧ carry < (unitN b : Int)) (hn : dayB n = true) : BrB b (brings parts b prin carry n) := by
  obtain ⟨r, hr⟩ := one_ex (b := b) hn
  have hd : DayR parts.toNat b prin.toNat carry.toNat n (dayX parts.toNat prin.toNat r.toNat carry.toNat / unitN b, dayX parts.toNat prin.toNat r.toNat carry.toNat % unitN b) := ⟨⟨r, hr, rfl⟩⟩
  have e := brings_of hd
  rw [show ((parts.toNat : Nat) : Int) = parts by omega, show ((prin.toNat : Nat) : Int) = prin by omega, show ((carry.toNat : Nat) : Int) = carry by omega] at e
  have b1 := hd.bd (by omega) (by omega) (by omega)
  have b2 := hd.carry
  rw [e]
  refine ⟨⟨?_, ?_⟩, ?_, ?_⟩
  · exact Int.natCast_nonneg _
  · exact Int.ofNat_le.2 b1
  · exact Int.natCast_nonneg _
  · exact Int.ofNat_lt.2 b2
/-- The events up to a day. -/
def eatF (S : Sto) (day : Int) : List Ev → St → St × List Ev × List (Key × List Leg)
  | [], x => (x, [], [])
  | e :: r, x => if e.day ≤ day then (if e.day = day then ((eatF S day r (eventF x e).1).1, (eatF S day r (eventF x e).1).2.1, entOf S day e (eventF x e).2 ++ (eatF S day r (eventF x e).1).2.2) else eatF S day r x) else (x, e :: r, [])
structure TS where
  x : St
  next : Nat
  l : List Ev
  E : List (Key × List Leg)
def boardF (S : Sto) (day : Int) (s : TS) : TS := if day = S.t.start then ⟨{ s.x with prin := S.t.prin, status := 1 }, s.next, s.l, s.E ++ [(⟨S.loan, day, 1, 0⟩, refMade [⟨2, S.t.prin⟩, ⟨1, -S.t.prin⟩])]⟩ else s
def ateF (S : Sto) (day : Int) (s : TS) : TS := ⟨(eatF S day s.l s.x).1, s.next, (eatF S day s.l s.x).2.1, s.E ++ (eatF S day s.l s.x).2.2⟩
noncomputable def sleepF (S : Sto) (day : Int) (s : TS) : TS := ⟨(nightF S day s.x s.next).1, (nightF S day s.x s.next).2.1, s.l, s.E ++ (nightF S day s.x s.next).2.2⟩
noncomputable def oneDay (S : Sto) (th day : Int) (s : TS) : TS := if day ≤ th then sleepF S day (ateF S day (boardF S day s)) else ateF S day (boardF S day s)
noncomputable def daysF (S : Sto) (th : Int) (s0 : TS) : Nat → TS
  | 0 => s0
  | i + 1 => oneDay S th (S.t.start + i) (daysF S th s0 i)
@[reducible] def st0 : St := ⟨0, 0, 0, 0, 0, 0, 0, 0, 0⟩
noncomputable def tellF (S : Sto) (th : Int) (l : List Ev) : TS := daysF S th ⟨st0, 0, l, []⟩ (th + 2 - S.t.start).toNat
/-! How far it goes. -/
theorem StB.mono {S : Sto} {k k' : Int} {x : St} (h : StB S k x) (hk : k ≤ k') : StB S k' x := ⟨⟨h.fees.1, by have := h.fees.2; omega⟩, ⟨h.int.1, by have := h.int.2; omega⟩, h.prin, h.carry, ⟨h.paid.1, by have := h.paid.2; omega⟩, ⟨h.susp.1, by have := h.susp.2; omega⟩, ⟨h.recv.1, by have := h.recv.2; omega⟩, ⟨h.cash.1, by have := h.cash.2; omega⟩⟩
theorem close_bd {S : Sto} {k : Int} {x : St} (h : StB S k x) : StB S k (closeF x) := by
  unfold closeF
  split
  · exact ⟨h.fees, h.int, h.prin, h.carry, h.paid, h.susp, h.recv, h.cash⟩
  · exact h
def EvA (e : Ev) : Prop := 0 ≤ e.amt ∧ e.amt ≤ 1000000000000
theorem pay_StB {S : Sto} {k n : Int} {x : St} (h : StB S k x) (hn : 0 ≤ n ∧ n ≤ 1000000000000) : StB S (k + 1000000000000) (payF x n) := by
  have h1 := h.fees; have h2 := h.int; have h3 := h.prin; have h4 := h.paid; have h5 := h.susp; have h6 := h.recv; have h7 := h.cash
  have pb := pay_bd h1.1 h2.1 h3.1 hn.1
  have b1 := pb.hf; have b2 := pb.hi; have b3 := pb.hp; have b4 := pb.hl; have b5 := pb.hs
  unfold payF
  split
  · exact ⟨⟨h1.1, by show x.fees ≤ _; omega⟩, ⟨h2.1, by show x.int ≤ _; omega⟩, h3, h.carry, ⟨h4.1, by show x.paid ≤ _; omega⟩, ⟨h5.1, by show x.susp ≤ _; omega⟩, ⟨by show 0 ≤ x.recv + n; omega, by show x.recv + n ≤ _; omega⟩, ⟨by show 0 ≤ x.cash + n; omega, by show x.cash + n ≤ _; omega⟩⟩
  · exact ⟨⟨by show 0 ≤ x.fees - _; omega, by show x.fees - _ ≤ _; omega⟩, ⟨by show 0 ≤ x.int - _; omega, by show x.int - _ ≤ _; omega⟩, ⟨by show 0 ≤ x.prin - _; omega, by show x.prin - _ ≤ _; omega⟩, h.carry, ⟨by show 0 ≤ x.paid + (_ + _); omega, by show x.paid + (_ + _) ≤ _; omega⟩, ⟨by show 0 ≤ x.susp + _; omega, by show x.susp + _ ≤ _; omega⟩, ⟨h6.1, by show x.recv ≤ _; omega⟩, ⟨by show 0 ≤ x.cash + n; omega, by show x.cash + n ≤ _; omega⟩⟩
theorem event_StB {S : Sto} {k : Int} {x : St} {e : Ev} (h : StB S k x) (ha : EvA e) : StB S (k + 1000000000000) (eventF x e).1 := by
  have h1 := h.fees; have h2 := h.int; have h3 := h.prin
  have hx := h.mono (k' := k + 1000000000000) (by omega)
  have ha1 := ha.1
  have ha2 := ha.2
  have hk : 0 ≤ k := by omega
  unfold eventF
  split
  · exact close_bd (pay_StB h ha)
  · split
    · exact hx
    · split
      · refine close_bd ⟨⟨?_, ?_⟩, hx.int, hx.prin, hx.carry, hx.paid, hx.susp, hx.recv, hx.cash⟩
        · show 0 ≤ x.fees + e.amt; omega
        · show x.fees + e.amt ≤ _; omega
      · split
        · have hm := mn_bd h1.1 ha1
          refine close_bd ⟨⟨?_, ?_⟩, hx.int, hx.prin, hx.carry, hx.paid, hx.susp, hx.recv, hx.cash⟩
          · show 0 ≤ x.fees - mn x.fees e.amt; omega
          · show x.fees - mn x.fees e.amt ≤ _; omega
        · split
          · refine close_bd (x := { x with fees := 0, int := 0, prin := 0, status := 3 }) ⟨⟨?_, ?_⟩, ⟨?_, ?_⟩, ⟨?_, ?_⟩, hx.carry, hx.paid, hx.susp, hx.recv, hx.cash⟩
            · exact Int.le_refl 0
            · show 0 ≤ k + 1000000000000; omega
            · exact Int.le_refl 0
            · show 0 ≤ k + 1000000000000; omega
            · exact Int.le_refl 0
            · show (0 : Int) ≤ 1000000000000; decide
          · exact close_bd hx
theorem night_StB {S : Sto} (hS : StoOk S) {k day : Int} {x : St} {next : Nat} (h : StB S k x) (hd : dayB day = true) : StB S (k + 1000000000000) (nightF S day x next).1 := by
  have hx := h.mono (k' := k + 1000000000000) (by omega)
  have h1 := h.fees; have h2 := h.int
  have hb := brings_bd (b := S.t.basis) ⟨hS.tin.parts.1, hS.ok.parts⟩ h.prin h.carry hd
  have b1 := hb.n
  have hl := lateGo_bd S.t S.loan day x.paid hS.ok.fee (S.dues.drop next) next x.fees
  have hn : (S.dues.drop next).length ≤ 480 := by rw [List.length_drop]; have := hS.len; omega
  unfold nightF
  split
  · refine ⟨⟨?_, ?_⟩, ⟨?_, ?_⟩, hx.prin, hb.c, hx.paid, hx.susp, hx.recv, hx.cash⟩
    · show 0 ≤ (lateGo S.t S.loan day x.paid (S.dues.drop next) next x.fees).2.1; omega
    · show (lateGo S.t S.loan day x.paid (S.dues.drop next) next x.fees).2.1 ≤ _; omega
    · show 0 ≤ x.int + (brings S.t.parts S.t.basis x.prin x.carry day).1; omega
    · show x.int + (brings S.t.parts S.t.basis x.prin x.carry day).1 ≤ _; omega
  · exact hx
theorem night_len {S : Sto} (hS : StoOk S) {day : Int} {x : St} {next : Nat} (hn : next ≤ S.dues.length) : (nightF S day x next).2.1 ≤ S.dues.length ∧ (nightF S day x next).2.2.length ≤ 481 := by
  have hl := lateGo_bd S.t S.loan day x.paid hS.ok.fee (S.dues.drop next) next x.fees
  rw [List.length_drop] at hl
  have := hS.len
  unfold nightF
  split
  · simp only [List.length_append, List.length_cons, List.length_nil]; omega
  · simp only [List.length_nil]; omega
theorem ent_len (S : Sto) (day : Int) (e : Ev) (o : Option (List Leg)) : (entOf S day e o).length ≤ 1 := by cases o <;> simp [entOf]
structure EatB (S : Sto) (k : Int) (l : List Ev) (q : St × List Ev × List (Key × List Leg)) : Prop where
  st : StB S (k + 1000000000000 * (l.length : Int)) q.1
  left : q.2.1.length ≤ l.length ∧ ∀ e, e ∈ q.2.1 → EvA e
  ents : q.2.2.length ≤ l.length
theorem eat_bd {S : Sto} {day : Int} : ∀ (l : List Ev) (x : St) (k : Int), (∀ e, e ∈ l → EvA e) → StB S k x → EatB S k l (eatF S day l x)
  | [], x, k, _, hx => ⟨by rw [List.length_nil]; exact hx.mono (by omega), ⟨Nat.le_refl _, fun e h => by cases h⟩, Nat.le_refl _⟩
  | e :: r, x, k, ha, hx => by
    have har : ∀ e, e ∈ r → EvA e := fun e h => ha e (List.mem_cons_of_mem _ h)
    unfold eatF
    split
    · split
      · have ih := eat_bd (day := day) r (eventF x e).1 (k + 1000000000000) har (event_StB hx (ha e List.mem_cons_self))
        have hl := ent_len S day e (eventF x e).2
        refine ⟨ih.st.mono (by rw [List.length_cons]; omega), ⟨Nat.le_trans ih.left.1 (by rw [List.length_cons]; omega), ih.left.2⟩, ?_⟩
        have := ih.ents
        rw [List.length_append, List.length_cons]; omega
      · have ih := eat_bd (day := day) r x k har hx
        exact ⟨ih.st.mono (by rw [List.length_cons]; omega), ⟨Nat.le_trans ih.left.1 (by rw [List.length_cons]; omega), ih.left.2⟩, by have := ih.ents; rw [List.length_cons]; omega⟩
    · exact ⟨hx.mono (by omega), ⟨Nat.le_refl _, ha⟩, Nat.zero_le _⟩
structure TsB (S : Sto) (i : Nat) (s : TS) : Prop where
  x : StB S (20000000000000 * (i : Int)) s.x
  next : s.next ≤ S.dues.length
  l : s.l.length ≤ 19 ∧ ∀ e, e ∈ s.l → EvA e
  E : s.E.length ≤ 501 * i
/-- After the boarding, after the day's events. -/
structure MidB (S : Sto) (i : Nat) (s : TS) : Prop where
  x : StB S (20000000000000 * (i : Int) + 19000000000000) s.x
  next : s.next ≤ S.dues.length
  l : s.l.length ≤ 19 ∧ ∀ e, e ∈ s.l → EvA e
  E : s.E.length ≤ 501 * i + 20
theorem board_bd {S : Sto} (hS : StoOk S) {i : Nat} {day : Int} {s : TS} (h : TsB S i s) : TsB S i ⟨(boardF S day s).x, (boardF S day s).next, (boardF S day s).l, s.E⟩ ∧ (boardF S day s).E.length ≤ s.E.length + 1 := by
  have hp := hS.ok.prin
  unfold boardF
  split
  · refine ⟨⟨⟨h.x.fees, h.x.int, ⟨by show 0 ≤ S.t.prin; omega, hp.2⟩, h.x.carry, h.x.paid, h.x.susp, h.x.recv, h.x.cash⟩, h.next, h.l, h.E⟩, ?_⟩
    simp
  · exact ⟨h, Nat.le_add_right _ _⟩
theorem ate_bd {S : Sto} (hS : StoOk S) {i : Nat} {day : Int} {s : TS} (h : TsB S i s) : MidB S i (ateF S day (boardF S day s)) := by
  obtain ⟨hb, he⟩ := board_bd hS (day := day) h
  have h1 := eat_bd (day := day) (boardF S day s).l (boardF S day s).x _ hb.l.2 hb.x
  have hll : (boardF S day s).l.length ≤ 19 := hb.l.1
  have hE := h.E
  have h1E := h1.ents
  have h1l := h1.left.1
  refine ⟨h1.st.mono (by omega), hb.next, ⟨?_, h1.left.2⟩, ?_⟩
  · show (eatF S day (boardF S day s).l (boardF S day s).x).2.1.length ≤ 19
    omega
  · show ((boardF S day s).E ++ (eatF S day (boardF S day s).l (boardF S day s).x).2.2).length ≤ _
    rw [List.length_append]; omega
theorem oneDay_bd {S : Sto} (hS : StoOk S) {i : Nat} {th day : Int} {s : TS} (h : TsB S i s) (hd : day ≤ th → dayB day = true) : TsB S (i + 1) (oneDay S th day s) := by
  have hm := ate_bd hS (day := day) h
  have hE := hm.E
  unfold oneDay
  split
  · rename_i hle
    have hn := night_StB hS (next := (ateF S day (boardF S day s)).next) hm.x (hd hle)
    have hl := night_len hS (day := day) (x := (ateF S day (boardF S day s)).x) hm.next
    refine ⟨hn.mono (by rw [Int.natCast_add]; omega), hl.1, hm.l, ?_⟩
    show ((ateF S day (boardF S day s)).E ++ (nightF S day (ateF S day (boardF S day s)).x (ateF S day (boardF S day s)).next).2.2).length ≤ _
    rw [List.length_append]; omega
  · exact ⟨hm.x.mono (by rw [Int.natCast_add]; omega), hm.next, hm.l, by omega⟩
theorem days_bd {S : Sto} (hS : StoOk S) {th : Int} (hth : th ≤ 3640000) {l : List Ev} (hl : l.length ≤ 19) (ha : ∀ e, e ∈ l → EvA e) : ∀ i : Nat, TsB S i (daysF S th ⟨st0, 0, l, []⟩ i)
  | 0 => by
    have hu := unit_bd S.t.basis
    have h0 : (0 : Int) ≤ 0 ∧ (0 : Int) ≤ 20000000000000 * ((0 : Nat) : Int) := by decide
    exact ⟨⟨h0, h0, by show (0 : Int) ≤ 0 ∧ (0 : Int) ≤ 1000000000000; decide, ⟨Int.le_refl 0, by show (0 : Int) < _; omega⟩, h0, h0, h0, h0⟩, Nat.zero_le _, ⟨hl, ha⟩, Nat.le_refl _⟩
  | i + 1 => by
    have ih := days_bd hS hth hl ha i
    exact oneDay_bd hS ih fun h => by
      have h1 := hS.ok.start
      simp only [dayB, Bool.and_eq_true, decide_eq_true_eq]; omega
end Go.Proofs.YtjlfjjgjghdokaaGreatDoor
set_option linter.unusedVariables false
namespace Go.Proofs.YtjlfjjgjghdokaaGreatDoor
open Go Go.Proofs Go.Wk
theorem idx_ownA {P : Program} {T : Tab} {K : Value → World → Prop} {w : World} (hT : T.Ok P) {t e : TypeId} {it : TypeInfo} {de : TD} {A : Option Addr} {b o n c : Nat} {kd : IntKind} {j : Int} (hA : A = some ⟨b, o, none⟩) (ht : T t = some ⟨.slice e, it⟩) (he : T e = some de) (h0 : 0 ≤ j) (h1 : j < n)
    (k : K (.pointer (some ⟨b, o + j.toNat * de.info.size, none⟩)) w) : IdxAddrK P K w t (.slice A n c) (.int kd j) := by
  subst hA
  exact idx_own hT ht he h0 h1 k
theorem sl_ldA {P : Program} {T : Tab} {K : Value → World → Prop} {w : World} {B : Base} {S : List Asn} {F : List Fact} (hT : T.Ok P) (H : Hp B S F w) {A : Option Addr} {b o n c j f off : Nat} {α : Type} {r : Rp α} {xs : List α} {x : α} {t : TypeId} (hA : A = some ⟨b, o, none⟩) (v : Value) [hp : InSl F A n c r xs] (hx : xs[j]? = some x) (hoff : off = o + j * r.sz + f)
    (hv : ∀ p, r.ok x p → ldV (T t) (r.cells x p) f = some v) (k : K v w) : LoadK P K w t (.pointer (some ⟨b, off, none⟩)) := by
  subst hA
  exact sl_ld (n := n) (c := c) hT H v hx hoff hv k
structure ES where
  x : St
  l : List Ev
  sv : SV
  h : Hd
  E : List (Key × List Leg)
structure Eat (S : Sto) (day : Int) (i : Nat) (b : TS) (s : ES) : Prop where
  x : StB S (20000000000000 * (i : Int) + 1000000000000 * ((b.l.length : Int) - (s.l.length : Int))) s.x
  ll : s.l.length ≤ b.l.length ∧ b.l.length ≤ 19
  am : ∀ e, e ∈ s.l → EvA e
  go : eatF S day b.l b.x = ((eatF S day s.l s.x).1, (eatF S day s.l s.x).2.1, s.E ++ (eatF S day s.l s.x).2.2)
  es : s.h.es.map kl = b.E ++ s.E
  el : s.E.length + s.l.length ≤ b.l.length
/-- What is known behind the boarding. -/
structure BoB (S : Sto) (i : Nat) (b : TS) : Prop where
  x : StB S (20000000000000 * (i : Int)) b.x
  next : b.next ≤ S.dues.length
  l : b.l.length ≤ 19 ∧ ∀ e, e ∈ b.l → EvA e
  E : b.E.length ≤ 501 * i + 1
theorem bo_of {S : Sto} (hS : StoOk S) {i : Nat} {day : Int} {s : TS} (h : TsB S i s) : BoB S i (boardF S day s) := by
  have h1 := board_bd hS (day := day) h
  exact ⟨h1.1.x, h1.1.next, h1.1.l, by have := h1.2; have := h.E; omega⟩
theorem ate_bd' {S : Sto} (hS : StoOk S) {i : Nat} {day : Int} {b : TS} (h : BoB S i b) : MidB S i (ateF S day b) := by
  have h1 := eat_bd (day := day) b.l b.x _ h.l.2 h.x
  have hll := h.l.1
  have hE := h.E
  have h1E := h1.ents
  have h1l := h1.left.1
  refine ⟨h1.st.mono (by omega), h.next, ⟨?_, h1.left.2⟩, ?_⟩
  · show (eatF S day b.l b.x).2.1.length ≤ 19
    omega
  · show (b.E ++ (eatF S day b.l b.x).2.2).length ≤ _
    rw [List.length_append]; omega
theorem Eat.start {S : Sto} {day : Int} {i : Nat} {b : TS} {sv : SV} {hh : Hd} (h : BoB S i b) (hes : hh.es.map kl = b.E) : Eat S day i b ⟨b.x, b.l, sv, hh, []⟩ :=
  ⟨h.x.mono (by simp only; omega), ⟨Nat.le_refl _, h.l.1⟩, h.l.2, rfl, by rw [hes]; exact (List.append_nil _).symm, by show 0 + b.l.length ≤ _; omega⟩
theorem Eat.kk {S : Sto} {day : Int} {i : Nat} {b : TS} {s : ES} (h : Eat S day i b s) (hi : i ≤ 10001) : 20000000000000 * (i : Int) + 1000000000000 * ((b.l.length : Int) - (s.l.length : Int)) ≤ 1000000000000000000 := by
  have := h.ll; omega
theorem Eat.hl {S : Sto} {day : Int} {i : Nat} {b : TS} {s : ES} (h : Eat S day i b s) (hb : BoB S i b) (hi : i ≤ 10001) : s.h.es.length ≤ 1000000000 := by
  have h1 := congrArg List.length h.es
  rw [List.length_map, List.length_append] at h1
  have := h.el; have := h.ll; have := hb.E
  omega
theorem drop_head {l : List Ev} {e : Ev} (h : l[0]? = some e) : l = e :: l.drop 1 := by
  cases l with
  | nil => cases h
  | cons a r => rw [show a = e from Option.some.inj h]; rfl
theorem Eat.take {S : Sto} {day : Int} {i : Nat} {b : TS} {s : ES} (h : Eat S day i b s) {e : Ev} (he : s.l[0]? = some e) (h1 : e.day ≤ day) (h2 : e.day = day) {h' : Hd} {A : Option Addr} {n c : Nat} (hh : h'.es.map kl = s.h.es.map kl ++ entOf S day e (eventF s.x e).2) :
    Eat S day i b ⟨(eventF s.x e).1, s.l.drop 1, ⟨A, n, c⟩, h', s.E ++ entOf S day e (eventF s.x e).2⟩ := by
  have hl := drop_head he
  have hlen : s.l.length = (s.l.drop 1).length + 1 := by rw [List.length_drop]; have := congrArg List.length hl; rw [List.length_cons, List.length_drop] at this; omega
  have hll := h.ll
  have ho := ent_len S day e (eventF s.x e).2
  refine ⟨(event_StB h.x (h.am e (List.mem_of_getElem? he))).mono (by simp only; omega), ⟨by simp only; omega, hll.2⟩, fun z hz => h.am z (List.mem_of_mem_drop hz), ?_, ?_, ?_⟩
  · rw [h.go, hl]
    rw [eatF, if_pos h1, if_pos h2]
    simp
  · simp only
    rw [hh, h.es, List.append_assoc]
  · simp only
    rw [List.length_append]
    have := h.el
    omega
theorem Eat.skip {S : Sto} {day : Int} {i : Nat} {b : TS} {s : ES} (h : Eat S day i b s) {e : Ev} (he : s.l[0]? = some e) (h1 : e.day ≤ day) (h2 : e.day ≠ day) {A : Option Addr} {n c : Nat} : Eat S day i b ⟨s.x, s.l.drop 1, ⟨A, n, c⟩, s.h, s.E⟩ := by
  have hl := drop_head he
  have hlen : s.l.length = (s.l.drop 1).length + 1 := by rw [List.length_drop]; have := congrArg List.length hl; rw [List.length_cons, List.length_drop] at this; omega
  have hll := h.ll
  refine ⟨h.x.mono (by simp only; omega), ⟨by simp only; omega, hll.2⟩, fun z hz => h.am z (List.mem_of_mem_drop hz), ?_, h.es, ?_⟩
  · rw [h.go, hl]
    rw [eatF, if_pos h1, if_neg h2]
    simp
  · simp only
    have := h.el
    omega
theorem Eat.done {S : Sto} {day : Int} {i : Nat} {b : TS} {s : ES} (h : Eat S day i b s) (hq : eatF S day s.l s.x = (s.x, s.l, [])) : s.x = (ateF S day b).x ∧ s.l = (ateF S day b).l ∧ s.h.es.map kl = (ateF S day b).E := by
  unfold ateF
  rw [h.go, hq, h.es]
  exact ⟨rfl, rfl, by simp⟩
theorem Eat.stop {S : Sto} {day : Int} {i : Nat} {b : TS} {s : ES} (h : Eat S day i b s) {e : Ev} (he : s.l[0]? = some e) (h1 : ¬ e.day ≤ day) : s.x = (ateF S day b).x ∧ s.l = (ateF S day b).l ∧ s.h.es.map kl = (ateF S day b).E :=
  h.done (by rw [drop_head he, eatF, if_neg h1])
theorem Eat.over {S : Sto} {day : Int} {i : Nat} {b : TS} {s : ES} (h : Eat S day i b s) (h1 : s.l = []) : s.x = (ateF S day b).x ∧ s.l = (ateF S day b).l ∧ s.h.es.map kl = (ateF S day b).E :=
  h.done (by rw [h1, eatF])
set_option maxRecDepth 20000 in
set_option maxHeartbeats 4000000 in
theorem tell (sb : Nat) (S : Sto) (hS : StoOk S) (dv : SV) (A : Option Addr) (n c : Nat) (es : List Ev) (hes : es.length ≤ 19) (ham : ∀ e, e ∈ es → EvA e) (through : Int) (hth : through ≤ S.t.start + 10000) (hth2 : -2147483648 ≤ through) (w : World) (M I : BS)
    (H : Hp ⟨w, M, I⟩ [blk sb (stoC S dv) 120] [Sl dueR (.slice dv.A dv.n dv.c) S.dues, Sl evR (.slice A n c) es] w) :
    Ctr Tryz.prog 14 [.pointer (some ⟨sb, 0, none⟩), .slice A n c, .int .i32 through] w M I (fun a : St × Hd => .tuple #[stV a.1, .slice a.2.A a.2.es.length a.2.c]) (fun a => ∃ l, l.Perm es ∧ evSrt l ∧ a.1 = (tellF S (mn through 3640000) l).x ∧ a.2.es.map kl = (tellF S (mn through 3640000) l).E) (fun a => [blk sb (stoC S dv) 120, row 71 5 (.slice a.2.A a.2.es.length a.2.c) a.2.es.length (ensC a.2.es)]) (fun a => [EnF a.2.es]) := by
  have hstart := hS.ok.start
  have hth3 : mn through 3640000 ≤ 3640000 ∧ mn through 3640000 ≤ S.t.start + 10000 ∧ -2147483648 ≤ mn through 3640000 := by unfold mn; split <;> omega
  have hp1 : IntKind.i32.wrap (mn through 3640000 + 1) = mn through 3640000 + 1 := i32w (by omega) (by omega)
  refine Exe.of_ev tok Tryz.call14 Tryz.func14 rfl rfl rfl ?_
  refine alloc_as tok H (stC st0) rfl rfl rfl fun r0 w1 H1 => ?_
  refine call_rule H1 (fun M I h0 h => sortEv A n c es hes _ M I (h0 rfl) h) fun a w2 ha H2 => ?_
  refine box_as H2 (telC sb st0 0 0 none 0 0) rfl fun p w3 H3 => ?_
  refine load_rule tok H3 (v := .int .i32 S.t.start) rfl ?_
  refine store_as tok H3 (telC sb st0 S.t.start 0 none 0 0) rfl rfl rfl rfl rfl fun w4 H4 => ?_
  have H5 := hpEnNil (Hp.nil H4 71 5)
  refine Exists.elim (show ∃ th, th = mn through 3640000 from ⟨_, rfl⟩) fun th eth => ?_
  refine Exists.elim (show ∃ N, N = (th + 2 - S.t.start).toNat from ⟨_, rfl⟩) fun N eN => ?_
  refine Exists.elim (show ∃ l0, l0 = a.2 from ⟨_, rfl⟩) fun l0 el0 => ?_
  have hl0 : l0.length ≤ 19 := by rw [el0, ha.1.length_eq]; exact hes
  have hal0 : ∀ e, e ∈ l0 → EvA e := fun e he => ham e (ha.1.mem_iff.1 (el0 ▸ he))
  have hN : N ≤ 10002 := by omega
  have hTS := fun i => days_bd hS (th := th) (by omega) hl0 hal0 i
  have ethp : IntKind.i32.wrap (th + 1) = th + 1 := by rw [eth]; exact hp1
  refine loop_out tok (σ := Nat × SV × Hd) (τ := Hd) 1298074214633706907132623948087298 0 (fun s => [(1, .slice s.2.1.A s.2.1.n s.2.1.c)]) (fun s w' => s.1 ≤ N ∧ s.2.2.es.map kl = (daysF S th ⟨st0, 0, l0, []⟩ s.1).E ∧ Hp ⟨w, M, I⟩ [blk p (telC sb (daysF S th ⟨st0, 0, l0, []⟩ s.1).x (S.t.start + (s.1 : Int)) (daysF S th ⟨st0, 0, l0, []⟩ s.1).next s.2.2.A s.2.2.es.length s.2.2.c) 124, row 71 5 (.slice s.2.2.A s.2.2.es.length s.2.2.c) s.2.2.es.length (ensC s.2.2.es), blk sb (stoC S dv) 120, blk r0 (stC st0) 44] [EnF s.2.2.es, Sl evR (.slice s.2.1.A s.2.1.n s.2.1.c) (daysF S th ⟨st0, 0, l0, []⟩ s.1).l, Sl dueR (.slice dv.A dv.n dv.c) S.dues] w') (fun s => N - s.1) (0, a.1, ⟨none, 0, []⟩)
    (fun _ => []) (fun h w' => h.es.map kl = (daysF S th ⟨st0, 0, l0, []⟩ N).E ∧ ∃ day nx : Int, Hp ⟨w, M, I⟩ [blk p (telC sb (daysF S th ⟨st0, 0, l0, []⟩ N).x day nx h.A h.es.length h.c) 124, row 71 5 (.slice h.A h.es.length h.c) h.es.length (ensC h.es), blk sb (stoC S dv) 120, blk r0 (stC st0) 44] [EnF h.es] w') rfl rfl ⟨rfl, trivial⟩ ⟨Nat.zero_le _, rfl, ?_⟩ ?_ ?_
  · have H6 : Hp ⟨w, M, I⟩ [blk p (telC sb st0 S.t.start 0 none 0 0) 124, row 71 5 (.slice none 0 0) 0 [], blk sb (stoC S dv) 120, blk r0 (stC st0) 44] [EnF [], Sl evR (.slice a.1.A a.1.n a.1.c) a.2, Sl dueR (.slice dv.A dv.n dv.c) S.dues] w4 := Hp.keep H5
    rw [← el0] at H6
    have e0 : S.t.start + ((0 : Nat) : Int) = S.t.start := Int.add_zero _
    show Hp ⟨w, M, I⟩ [blk p (telC sb st0 (S.t.start + ((0 : Nat) : Int)) 0 none 0 0) 124, row 71 5 (.slice none 0 0) 0 [], blk sb (stoC S dv) 120, blk r0 (stC st0) 44] [EnF [], Sl evR (.slice a.1.A a.1.n a.1.c) l0, Sl dueR (.slice dv.A dv.n dv.c) S.dues] w4
    rw [e0]
    exact H6
  · intro s j w5 hW
    refine Exists.elim (show ∃ i, i = s.1 from ⟨_, rfl⟩) fun i ei => ?_
    have hiN := hW.1
    have hEs := hW.2.1
    have H6 := hW.2.2
    rw [← ei] at hiN hEs H6
    refine load_rule tok H6 (v := .int .i32 (S.t.start + (i : Int))) rfl ?_
    refine brd (fun q => ?_) (fun q => ?_)
    · have q : S.t.start + (i : Int) ≤ IntKind.i32.wrap (mn through 3640000 + 1) := q
      rw [hp1, ← eth] at q
      have hi0 : i < N := by omega
      have hi1 : i ≤ 10001 := by omega
      have edn : IntKind.i32.wrap (S.t.start + (i : Int) + 1) = S.t.start + ((i + 1 : Nat) : Int) := by rw [i32w (by omega) (by omega)]; omega
      refine Exists.elim (show ∃ b, b = boardF S (S.t.start + (i : Int)) (daysF S th ⟨st0, 0, l0, []⟩ i) from ⟨_, rfl⟩) fun b hb => ?_
      have hbb : BoB S i b := hb ▸ bo_of hS (hTS i)
      refine draw_rule (A := []) tok tdr H6 [0, 1, 2, 3, 4, 5, 6, 7, 8, 9] [0, 1, 3, 7, 0, 16, 48, 112, 240, 511] rfl ?_
      refine pass_rule _ (fun w h => load_rule tok h (v := .int .i32 (S.t.start + (i : Int))) rfl ⟨rfl, rfl⟩) ?_
      refine pass_rule _ (fun w h => load_rule tok h (v := .int .i32 S.t.start) rfl ⟨rfl, rfl⟩) ?_
      refine done_rule fun w6 H7 => ?_
      refine br (fun qb => ?_) (fun qb => ?_)
      · have qb : S.t.start + (i : Int) = S.t.start := eq_of_beq qb
        have ebx : b = ⟨{ (daysF S th ⟨st0, 0, l0, []⟩ i).x with prin := S.t.prin, status := 1 }, (daysF S th ⟨st0, 0, l0, []⟩ i).next, (daysF S th ⟨st0, 0, l0, []⟩ i).l, (daysF S th ⟨st0, 0, l0, []⟩ i).E ++ [(⟨S.loan, S.t.start + (i : Int), 1, 0⟩, refMade [⟨2, S.t.prin⟩, ⟨1, -S.t.prin⟩])]⟩ := by rw [hb]; unfold boardF; rw [if_pos qb]
        have hpr := hS.ok.prin
        have hle : s.2.2.es.length ≤ 1000000000 := by
          have h1 := congrArg List.length hEs
          rw [List.length_map] at h1
          have h2 := (hTS i).E
          omega
        refine load_rule tok H7 (v := .int .i64 S.t.prin) rfl ?_
        refine store_as tok H7 (telC sb { (daysF S th ⟨st0, 0, l0, []⟩ i).x with prin := S.t.prin } (S.t.start + (i : Int)) (daysF S th ⟨st0, 0, l0, []⟩ i).next s.2.2.A s.2.2.es.length s.2.2.c) rfl rfl rfl rfl rfl fun w7 H8 => ?_
        refine store_as tok H8 (telC sb { (daysF S th ⟨st0, 0, l0, []⟩ i).x with prin := S.t.prin, status := 1 } (S.t.start + (i : Int)) (daysF S th ⟨st0, 0, l0, []⟩ i).next s.2.2.A s.2.2.es.length s.2.2.c) rfl rfl rfl rfl rfl fun w8 H9 => ?_
        refine load_rule tok H9 (v := .int .i64 S.t.prin) rfl ?_
        refine call_rule H9 (fun M I _ hw => both p sb S dv { (daysF S th ⟨st0, 0, l0, []⟩ i).x with prin := S.t.prin, status := 1 } (S.t.start + (i : Int)) (daysF S th ⟨st0, 0, l0, []⟩ i).next s.2.2 hle 1 0 2 1 S.t.prin ⟨by decide, by decide⟩ ⟨by decide, by decide⟩ ⟨by omega, by omega⟩ _ M I hw) fun hh w9 hhp H10 => ?_
        have hes : hh.es.map kl = b.E := by
          refine Exists.elim hhp fun y hy => ?_
          rw [hy.1, List.map_append, hEs, ebx, List.map_cons, hy.2]; rfl
        have Hb : Hp ⟨w, M, I⟩ [blk p (telC sb b.x (S.t.start + (i : Int)) b.next hh.A hh.es.length hh.c) 124, row 71 5 (.slice hh.A hh.es.length hh.c) hh.es.length (ensC hh.es), blk sb (stoC S dv) 120, blk r0 (stC st0) 44] [EnF hh.es, Sl evR (.slice s.2.1.A s.2.1.n s.2.1.c) b.l, Sl dueR (.slice dv.A dv.n dv.c) S.dues] w9 := by
          rw [ebx]
          exact Hp.keep H10
        refine loop_out tok (σ := ES) (τ := SV × Hd) 5070602396190551123117167607810 2 (fun s => [(1, .slice s.sv.A s.sv.n s.sv.c)]) (fun s w' => Eat S (S.t.start + (i : Int)) i b s ∧ Hp ⟨w, M, I⟩ [blk p (telC sb s.x (S.t.start + (i : Int)) b.next s.h.A s.h.es.length s.h.c) 124, row 71 5 (.slice s.h.A s.h.es.length s.h.c) s.h.es.length (ensC s.h.es), blk sb (stoC S dv) 120, blk r0 (stC st0) 44] [EnF s.h.es, Sl evR (.slice s.sv.A s.sv.n s.sv.c) s.l, Sl dueR (.slice dv.A dv.n dv.c) S.dues] w') (fun s => s.l.length) ⟨b.x, b.l, s.2.1, hh, []⟩
          (fun t => [(1, .slice t.1.A t.1.n t.1.c)]) (fun t w' => t.2.es.map kl = (ateF S (S.t.start + (i : Int)) b).E ∧ Hp ⟨w, M, I⟩ [blk p (telC sb (ateF S (S.t.start + (i : Int)) b).x (S.t.start + (i : Int)) (ateF S (S.t.start + (i : Int)) b).next t.2.A t.2.es.length t.2.c) 124, row 71 5 (.slice t.2.A t.2.es.length t.2.c) t.2.es.length (ensC t.2.es), blk sb (stoC S dv) 120, blk r0 (stC st0) 44] [EnF t.2.es, Sl evR (.slice t.1.A t.1.n t.1.c) (ateF S (S.t.start + (i : Int)) b).l, Sl dueR (.slice dv.A dv.n dv.c) S.dues] w') rfl rfl ⟨rfl, trivial⟩ ⟨Eat.start hbb hes, Hb⟩ ?_ ?_
        · intro s j2 w3 hW2
          have hI := hW2.1
          have H3 := hW2.2
          have hsl := H3.sll (A := s.sv.A) (n := s.sv.n) (c := s.sv.c) (r := evR) (xs := s.l)
          refine draw_rule (A := []) tok tdr H3 [0, 1, 2, 3, 4, 5, 6, 7, 8, 9, 10, 11, 12, 13] [0, 1, 3, 7, 15, 31, 63, 127, 15, 271, 783, 1807, 4095, 8191] rfl ?_
          refine brd (fun q2 => ?_) (fun q2 => ?_)
          · have hpos : 0 < s.sv.n := Int.ofNat_lt.1 q2
            have hA := H3.slAt (A := s.sv.A) (n := s.sv.n) (c := s.sv.c) (r := evR) (xs := s.l) hpos
            refine Exists.elim hA fun ab hA => Exists.elim hA fun ao hA => ?_
            refine Exists.elim (show ∃ e, s.l[0]? = some e from ⟨_, List.getElem?_eq_getElem (by omega)⟩) fun e he => ?_
            refine pass_rule _ (fun w h => idx_ownA tok hA rfl rfl (Int.le_refl 0) q2 ⟨rfl, rfl⟩) ?_
            refine pass_rule _ (fun w h => sl_ldA (A := s.sv.A) (n := s.sv.n) (c := s.sv.c) (j := 0) (f := 1) (r := evR) (xs := s.l) (x := e) tok h hA (.int .i32 e.day) he rfl (fun _ _ => rfl) ⟨rfl, rfl⟩) ?_
            refine pass_rule _ (fun w h => load_rule tok h (v := .int .i32 (S.t.start + (i : Int))) rfl ⟨rfl, rfl⟩) ?_
            refine done_rule fun w4 H4 => ?_
            refine brd (fun q3 => ?_) (fun q3 => ?_)
            · refine draw_rule (A := []) tok tdr H4 [0, 1, 2, 3, 4, 5, 6, 7, 8] [0, 1, 3, 7, 0, 16, 48, 112, 255] rfl ?_
              refine pass_rule _ (fun w h => idx_ownA tok hA rfl rfl (Int.le_refl 0) q2 ⟨rfl, rfl⟩) ?_
              refine pass_rule _ (fun w h => sl_ldA (A := s.sv.A) (n := s.sv.n) (c := s.sv.c) (j := 0) (f := 1) (r := evR) (xs := s.l) (x := e) tok h hA (.int .i32 e.day) he rfl (fun _ _ => rfl) ⟨rfl, rfl⟩) ?_
              refine pass_rule _ (fun w h => load_rule tok h (v := .int .i32 (S.t.start + (i : Int))) rfl ⟨rfl, rfl⟩) ?_
              refine done_rule fun w5 H5 => ?_
              have hk1 : 1 ≤ s.sv.n := hpos
              have hcap := hsl.2.1
              refine br (fun q4 => ?_) (fun q4 => ?_)
              · have q4 : e.day = S.t.start + (i : Int) := eq_of_beq q4
                refine idx_ownA tok hA rfl rfl (Int.le_refl 0) q2 ?_
                refine sl_ldA (A := s.sv.A) (n := s.sv.n) (c := s.sv.c) (j := 0) (f := 0) (r := evR) (xs := s.l) (x := e) tok H5 hA (evV e) he rfl (fun _ _ => rfl) ?_
                have ha := hI.am e (List.mem_of_getElem? he)
                refine call_rule H5 (fun M I _ hw => event_ p sb S dv s.x _ (hI.kk hi1) hI.x (S.t.start + (i : Int)) b.next s.h (hI.hl hbb hi1) e ha.1 (Int.le_trans ha.2 (by decide)) _ M I hw) fun h2 w6 hh2 H6 => ?_
                refine slice_lo tok H6 (k := 1) (A := s.sv.A) (n := s.sv.n) (c := s.sv.c) rfl rfl rfl hk1 rfl fun A2 H7 => ?_
                refine Exists.intro ⟨(eventF s.x e).1, s.l.drop 1, ⟨A2, s.sv.n - 1, s.sv.c - 1⟩, h2, s.E ++ entOf S (S.t.start + (i : Int)) e (eventF s.x e).2⟩ (And.intro ⟨rfl, trivial⟩ (And.intro ?_ (And.intro (hI.take he q3 q4 hh2) (Hp.keep H7))))
                show (s.l.drop 1).length < s.l.length
                rw [List.length_drop]; omega
              · have q4 : e.day ≠ S.t.start + (i : Int) := ne_of_beq_false q4
                refine slice_lo tok H5 (k := 1) (A := s.sv.A) (n := s.sv.n) (c := s.sv.c) rfl rfl rfl hk1 rfl fun A2 H7 => ?_
                refine Exists.intro ⟨s.x, s.l.drop 1, ⟨A2, s.sv.n - 1, s.sv.c - 1⟩, s.h, s.E⟩ (And.intro ⟨rfl, trivial⟩ (And.intro ?_ (And.intro (hI.skip he q3 q4) (Hp.keep H7))))
                show (s.l.drop 1).length < s.l.length
                rw [List.length_drop]; omega
            · have hst := hI.stop he q3
              refine Exists.intro (s.sv, s.h) (And.intro ⟨rfl, trivial⟩ (And.intro hst.2.2 ?_))
              rw [← hst.1, ← hst.2.1]
              show Hp ⟨w, M, I⟩ [blk p (telC sb s.x (S.t.start + (i : Int)) b.next s.h.A s.h.es.length s.h.c) 124, row 71 5 (.slice s.h.A s.h.es.length s.h.c) s.h.es.length (ensC s.h.es), blk sb (stoC S dv) 120, blk r0 (stC st0) 44] [EnF s.h.es, Sl evR (.slice s.sv.A s.sv.n s.sv.c) s.l, Sl dueR (.slice dv.A dv.n dv.c) S.dues] w4
              exact Hp.keep H4
          · refine done_rule fun w4 H4 => ?_
            have hl0 : s.l = [] := List.eq_nil_of_length_eq_zero (by have h2 : ¬ 0 < s.sv.n := fun hh => q2 (Int.ofNat_lt.2 hh); omega)
            have hst := hI.over hl0
            refine Exists.intro (s.sv, s.h) (And.intro ⟨rfl, trivial⟩ (And.intro hst.2.2 ?_))
            rw [← hst.1, ← hst.2.1]
            show Hp ⟨w, M, I⟩ [blk p (telC sb s.x (S.t.start + (i : Int)) b.next s.h.A s.h.es.length s.h.c) 124, row 71 5 (.slice s.h.A s.h.es.length s.h.c) s.h.es.length (ensC s.h.es), blk sb (stoC S dv) 120, blk r0 (stC st0) 44] [EnF s.h.es, Sl evR (.slice s.sv.A s.sv.n s.sv.c) s.l, Sl dueR (.slice dv.A dv.n dv.c) S.dues] w4
            exact Hp.keep H4
        · intro t j2 w3 hW2
          have hte := hW2.1
          have H3 := hW2.2
          refine load_rule tok H3 (v := .int .i32 (S.t.start + (i : Int))) rfl ?_
          refine brd (fun q2 => ?_) (fun q2 => ?_)
          · have q2 : S.t.start + (i : Int) ≤ th := eth.symm ▸ q2
            have hdb : dayB (S.t.start + (i : Int)) = true := by simp only [dayB, Bool.and_eq_true, decide_eq_true_eq]; omega
            have hmid := ate_bd' hS (day := S.t.start + (i : Int)) hbb
            have hk3 : 20000000000000 * (i : Int) + 19000000000000 ≤ 8000000000000000000 := by omega
            have hlen : t.2.es.length ≤ 900000000 := by
              have h1 := congrArg List.length hte
              rw [List.length_map] at h1
              have h2 := hmid.E
              omega
            refine call_rule H3 (fun M I _ hw => night p sb S hS dv (ateF S (S.t.start + (i : Int)) b).x _ hk3 hmid.x (S.t.start + (i : Int)) hdb (by omega) (ateF S (S.t.start + (i : Int)) b).next hmid.next t.2 hlen _ M I hw) fun h2 w4 hh2 H4 => ?_
            have hd1 : daysF S th ⟨st0, 0, l0, []⟩ (i + 1) = sleepF S (S.t.start + (i : Int)) (ateF S (S.t.start + (i : Int)) b) := by
              rw [hb]; show oneDay S th _ _ = _; unfold oneDay; rw [if_pos q2]
            refine load_rule tok H4 (v := .int .i32 (S.t.start + (i : Int))) rfl ?_
            refine store_as tok H4 (telC sb (nightF S (S.t.start + (i : Int)) (ateF S (S.t.start + (i : Int)) b).x (ateF S (S.t.start + (i : Int)) b).next).1 (IntKind.i32.wrap (S.t.start + (i : Int) + 1)) (nightF S (S.t.start + (i : Int)) (ateF S (S.t.start + (i : Int)) b).x (ateF S (S.t.start + (i : Int)) b).next).2.1 h2.A h2.es.length h2.c) rfl rfl rfl rfl rfl fun w5 H5 => ?_
            rw [edn] at H5
            refine Exists.intro (i + 1, t.1, h2) (And.intro ⟨rfl, trivial⟩ (And.intro ?_ (And.intro ?_ (And.intro ?_ ?_))))
            · show N - (i + 1) < N - s.1
              omega
            · show i + 1 ≤ N
              omega
            · rw [hd1]
              show h2.es.map kl = (ateF S (S.t.start + (i : Int)) b).E ++ _
              rw [hh2, hte]
            · show Hp ⟨w, M, I⟩ [blk p (telC sb (daysF S th ⟨st0, 0, l0, []⟩ (i + 1)).x (S.t.start + ((i + 1 : Nat) : Int)) (daysF S th ⟨st0, 0, l0, []⟩ (i + 1)).next h2.A h2.es.length h2.c) 124, row 71 5 (.slice h2.A h2.es.length h2.c) h2.es.length (ensC h2.es), blk sb (stoC S dv) 120, blk r0 (stC st0) 44] [EnF h2.es, Sl evR (.slice t.1.A t.1.n t.1.c) (daysF S th ⟨st0, 0, l0, []⟩ (i + 1)).l, Sl dueR (.slice dv.A dv.n dv.c) S.dues] w5
              rw [hd1]
              show Hp ⟨w, M, I⟩ [blk p (telC sb (nightF S (S.t.start + (i : Int)) (ateF S (S.t.start + (i : Int)) b).x (ateF S (S.t.start + (i : Int)) b).next).1 (S.t.start + ((i + 1 : Nat) : Int)) (nightF S (S.t.start + (i : Int)) (ateF S (S.t.start + (i : Int)) b).x (ateF S (S.t.start + (i : Int)) b).next).2.1 h2.A h2.es.length h2.c) 124, row 71 5 (.slice h2.A h2.es.length h2.c) h2.es.length (ensC h2.es), blk sb (stoC S dv) 120, blk r0 (stC st0) 44] [EnF h2.es, Sl evR (.slice t.1.A t.1.n t.1.c) (ateF S (S.t.start + (i : Int)) b).l, Sl dueR (.slice dv.A dv.n dv.c) S.dues] w5
              exact Hp.keep H5
          · have q2 : ¬ S.t.start + (i : Int) ≤ th := eth.symm ▸ q2
            have hd1 : daysF S th ⟨st0, 0, l0, []⟩ (i + 1) = ateF S (S.t.start + (i : Int)) b := by
              rw [hb]; show oneDay S th _ _ = _; unfold oneDay; rw [if_neg q2]
            refine load_rule tok H3 (v := .int .i32 (S.t.start + (i : Int))) rfl ?_
            refine store_as tok H3 (telC sb (ateF S (S.t.start + (i : Int)) b).x (IntKind.i32.wrap (S.t.start + (i : Int) + 1)) (ateF S (S.t.start + (i : Int)) b).next t.2.A t.2.es.length t.2.c) rfl rfl rfl rfl rfl fun w5 H5 => ?_
            rw [edn] at H5
            refine Exists.intro (i + 1, t.1, t.2) (And.intro ⟨rfl, trivial⟩ (And.intro ?_ (And.intro ?_ (And.intro ?_ ?_))))
            · show N - (i + 1) < N - s.1
              omega
            · show i + 1 ≤ N
              omega
            · rw [hd1]
              exact hte
            · show Hp ⟨w, M, I⟩ [blk p (telC sb (daysF S th ⟨st0, 0, l0, []⟩ (i + 1)).x (S.t.start + ((i + 1 : Nat) : Int)) (daysF S th ⟨st0, 0, l0, []⟩ (i + 1)).next t.2.A t.2.es.length t.2.c) 124, row 71 5 (.slice t.2.A t.2.es.length t.2.c) t.2.es.length (ensC t.2.es), blk sb (stoC S dv) 120, blk r0 (stC st0) 44] [EnF t.2.es, Sl evR (.slice t.1.A t.1.n t.1.c) (daysF S th ⟨st0, 0, l0, []⟩ (i + 1)).l, Sl dueR (.slice dv.A dv.n dv.c) S.dues] w5
              rw [hd1]
              exact Hp.keep H5

      · have qb : S.t.start + (i : Int) ≠ S.t.start := ne_of_beq_false qb
        have ebx : b = daysF S th ⟨st0, 0, l0, []⟩ i := by rw [hb]; unfold boardF; rw [if_neg qb]
        have hes : s.2.2.es.map kl = b.E := by rw [ebx]; exact hEs
        have Hb : Hp ⟨w, M, I⟩ [blk p (telC sb b.x (S.t.start + (i : Int)) b.next s.2.2.A s.2.2.es.length s.2.2.c) 124, row 71 5 (.slice s.2.2.A s.2.2.es.length s.2.2.c) s.2.2.es.length (ensC s.2.2.es), blk sb (stoC S dv) 120, blk r0 (stC st0) 44] [EnF s.2.2.es, Sl evR (.slice s.2.1.A s.2.1.n s.2.1.c) b.l, Sl dueR (.slice dv.A dv.n dv.c) S.dues] w6 := by
          rw [ebx]
          exact Hp.keep H7
        refine loop_out tok (σ := ES) (τ := SV × Hd) 5070602396190551123117167607810 2 (fun s => [(1, .slice s.sv.A s.sv.n s.sv.c)]) (fun s w' => Eat S (S.t.start + (i : Int)) i b s ∧ Hp ⟨w, M, I⟩ [blk p (telC sb s.x (S.t.start + (i : Int)) b.next s.h.A s.h.es.length s.h.c) 124, row 71 5 (.slice s.h.A s.h.es.length s.h.c) s.h.es.length (ensC s.h.es), blk sb (stoC S dv) 120, blk r0 (stC st0) 44] [EnF s.h.es, Sl evR (.slice s.sv.A s.sv.n s.sv.c) s.l, Sl dueR (.slice dv.A dv.n dv.c) S.dues] w') (fun s => s.l.length) ⟨b.x, b.l, s.2.1, s.2.2, []⟩
          (fun t => [(1, .slice t.1.A t.1.n t.1.c)]) (fun t w' => t.2.es.map kl = (ateF S (S.t.start + (i : Int)) b).E ∧ Hp ⟨w, M, I⟩ [blk p (telC sb (ateF S (S.t.start + (i : Int)) b).x (S.t.start + (i : Int)) (ateF S (S.t.start + (i : Int)) b).next t.2.A t.2.es.length t.2.c) 124, row 71 5 (.slice t.2.A t.2.es.length t.2.c) t.2.es.length (ensC t.2.es), blk sb (stoC S dv) 120, blk r0 (stC st0) 44] [EnF t.2.es, Sl evR (.slice t.1.A t.1.n t.1.c) (ateF S (S.t.start + (i : Int)) b).l, Sl dueR (.slice dv.A dv.n dv.c) S.dues] w') rfl rfl ⟨rfl, trivial⟩ ⟨Eat.start hbb hes, Hb⟩ ?_ ?_
        · intro s j2 w3 hW2
          have hI := hW2.1
          have H3 := hW2.2
          have hsl := H3.sll (A := s.sv.A) (n := s.sv.n) (c := s.sv.c) (r := evR) (xs := s.l)
          refine draw_rule (A := []) tok tdr H3 [0, 1, 2, 3, 4, 5, 6, 7, 8, 9, 10, 11, 12, 13] [0, 1, 3, 7, 15, 31, 63, 127, 15, 271, 783, 1807, 4095, 8191] rfl ?_
          refine brd (fun q2 => ?_) (fun q2 => ?_)
          · have hpos : 0 < s.sv.n := Int.ofNat_lt.1 q2
            have hA := H3.slAt (A := s.sv.A) (n := s.sv.n) (c := s.sv.c) (r := evR) (xs := s.l) hpos
            refine Exists.elim hA fun ab hA => Exists.elim hA fun ao hA => ?_
            refine Exists.elim (show ∃ e, s.l[0]? = some e from ⟨_, List.getElem?_eq_getElem (by omega)⟩) fun e he => ?_
            refine pass_rule _ (fun w h => idx_ownA tok hA rfl rfl (Int.le_refl 0) q2 ⟨rfl, rfl⟩) ?_
            refine pass_rule _ (fun w h => sl_ldA (A := s.sv.A) (n := s.sv.n) (c := s.sv.c) (j := 0) (f := 1) (r := evR) (xs := s.l) (x := e) tok h hA (.int .i32 e.day) he rfl (fun _ _ => rfl) ⟨rfl, rfl⟩) ?_
            refine pass_rule _ (fun w h => load_rule tok h (v := .int .i32 (S.t.start + (i : Int))) rfl ⟨rfl, rfl⟩) ?_
            refine done_rule fun w4 H4 => ?_
            refine brd (fun q3 => ?_) (fun q3 => ?_)
            · refine draw_rule (A := []) tok tdr H4 [0, 1, 2, 3, 4, 5, 6, 7, 8] [0, 1, 3, 7, 0, 16, 48, 112, 255] rfl ?_
              refine pass_rule _ (fun w h => idx_ownA tok hA rfl rfl (Int.le_refl 0) q2 ⟨rfl, rfl⟩) ?_
              refine pass_rule _ (fun w h => sl_ldA (A := s.sv.A) (n := s.sv.n) (c := s.sv.c) (j := 0) (f := 1) (r := evR) (xs := s.l) (x := e) tok h hA (.int .i32 e.day) he rfl (fun _ _ => rfl) ⟨rfl, rfl⟩) ?_
              refine pass_rule _ (fun w h => load_rule tok h (v := .int .i32 (S.t.start + (i : Int))) rfl ⟨rfl, rfl⟩) ?_
              refine done_rule fun w5 H5 => ?_
              have hk1 : 1 ≤ s.sv.n := hpos
              have hcap := hsl.2.1
              refine br (fun q4 => ?_) (fun q4 => ?_)
              · have q4 : e.day = S.t.start + (i : Int) := eq_of_beq q4
                refine idx_ownA tok hA rfl rfl (Int.le_refl 0) q2 ?_
                refine sl_ldA (A := s.sv.A) (n := s.sv.n) (c := s.sv.c) (j := 0) (f := 0) (r := evR) (xs := s.l) (x := e) tok H5 hA (evV e) he rfl (fun _ _ => rfl) ?_
                have ha := hI.am e (List.mem_of_getElem? he)
                refine call_rule H5 (fun M I _ hw => event_ p sb S dv s.x _ (hI.kk hi1) hI.x (S.t.start + (i : Int)) b.next s.h (hI.hl hbb hi1) e ha.1 (Int.le_trans ha.2 (by decide)) _ M I hw) fun h2 w6 hh2 H6 => ?_
                refine slice_lo tok H6 (k := 1) (A := s.sv.A) (n := s.sv.n) (c := s.sv.c) rfl rfl rfl hk1 rfl fun A2 H7 => ?_
                refine Exists.intro ⟨(eventF s.x e).1, s.l.drop 1, ⟨A2, s.sv.n - 1, s.sv.c - 1⟩, h2, s.E ++ entOf S (S.t.start + (i : Int)) e (eventF s.x e).2⟩ (And.intro ⟨rfl, trivial⟩ (And.intro ?_ (And.intro (hI.take he q3 q4 hh2) (Hp.keep H7))))
                show (s.l.drop 1).length < s.l.length
                rw [List.length_drop]; omega
              · have q4 : e.day ≠ S.t.start + (i : Int) := ne_of_beq_false q4
                refine slice_lo tok H5 (k := 1) (A := s.sv.A) (n := s.sv.n) (c := s.sv.c) rfl rfl rfl hk1 rfl fun A2 H7 => ?_
                refine Exists.intro ⟨s.x, s.l.drop 1, ⟨A2, s.sv.n - 1, s.sv.c - 1⟩, s.h, s.E⟩ (And.intro ⟨rfl, trivial⟩ (And.intro ?_ (And.intro (hI.skip he q3 q4) (Hp.keep H7))))
                show (s.l.drop 1).length < s.l.length
                rw [List.length_drop]; omega
            · have hst := hI.stop he q3
              refine Exists.intro (s.sv, s.h) (And.intro ⟨rfl, trivial⟩ (And.intro hst.2.2 ?_))
              rw [← hst.1, ← hst.2.1]
              show Hp ⟨w, M, I⟩ [blk p (telC sb s.x (S.t.start + (i : Int)) b.next s.h.A s.h.es.length s.h.c) 124, row 71 5 (.slice s.h.A s.h.es.length s.h.c) s.h.es.length (ensC s.h.es), blk sb (stoC S dv) 120, blk r0 (stC st0) 44] [EnF s.h.es, Sl evR (.slice s.sv.A s.sv.n s.sv.c) s.l, Sl dueR (.slice dv.A dv.n dv.c) S.dues] w4
              exact Hp.keep H4
          · refine done_rule fun w4 H4 => ?_
            have hl0 : s.l = [] := List.eq_nil_of_length_eq_zero (by have h2 : ¬ 0 < s.sv.n := fun hh => q2 (Int.ofNat_lt.2 hh); omega)
            have hst := hI.over hl0
            refine Exists.intro (s.sv, s.h) (And.intro ⟨rfl, trivial⟩ (And.intro hst.2.2 ?_))
            rw [← hst.1, ← hst.2.1]
            show Hp ⟨w, M, I⟩ [blk p (telC sb s.x (S.t.start + (i : Int)) b.next s.h.A s.h.es.length s.h.c) 124, row 71 5 (.slice s.h.A s.h.es.length s.h.c) s.h.es.length (ensC s.h.es), blk sb (stoC S dv) 120, blk r0 (stC st0) 44] [EnF s.h.es, Sl evR (.slice s.sv.A s.sv.n s.sv.c) s.l, Sl dueR (.slice dv.A dv.n dv.c) S.dues] w4
            exact Hp.keep H4
        · intro t j2 w3 hW2
          have hte := hW2.1
          have H3 := hW2.2
          refine load_rule tok H3 (v := .int .i32 (S.t.start + (i : Int))) rfl ?_
          refine brd (fun q2 => ?_) (fun q2 => ?_)
          · have q2 : S.t.start + (i : Int) ≤ th := eth.symm ▸ q2
            have hdb : dayB (S.t.start + (i : Int)) = true := by simp only [dayB, Bool.and_eq_true, decide_eq_true_eq]; omega
            have hmid := ate_bd' hS (day := S.t.start + (i : Int)) hbb
            have hk3 : 20000000000000 * (i : Int) + 19000000000000 ≤ 8000000000000000000 := by omega
            have hlen : t.2.es.length ≤ 900000000 := by
              have h1 := congrArg List.length hte
              rw [List.length_map] at h1
              have h2 := hmid.E
              omega
            refine call_rule H3 (fun M I _ hw => night p sb S hS dv (ateF S (S.t.start + (i : Int)) b).x _ hk3 hmid.x (S.t.start + (i : Int)) hdb (by omega) (ateF S (S.t.start + (i : Int)) b).next hmid.next t.2 hlen _ M I hw) fun h2 w4 hh2 H4 => ?_
            have hd1 : daysF S th ⟨st0, 0, l0, []⟩ (i + 1) = sleepF S (S.t.start + (i : Int)) (ateF S (S.t.start + (i : Int)) b) := by
              rw [hb]; show oneDay S th _ _ = _; unfold oneDay; rw [if_pos q2]
            refine load_rule tok H4 (v := .int .i32 (S.t.start + (i : Int))) rfl ?_
            refine store_as tok H4 (telC sb (nightF S (S.t.start + (i : Int)) (ateF S (S.t.start + (i : Int)) b).x (ateF S (S.t.start + (i : Int)) b).next).1 (IntKind.i32.wrap (S.t.start + (i : Int) + 1)) (nightF S (S.t.start + (i : Int)) (ateF S (S.t.start + (i : Int)) b).x (ateF S (S.t.start + (i : Int)) b).next).2.1 h2.A h2.es.length h2.c) rfl rfl rfl rfl rfl fun w5 H5 => ?_
            rw [edn] at H5
            refine Exists.intro (i + 1, t.1, h2) (And.intro ⟨rfl, trivial⟩ (And.intro ?_ (And.intro ?_ (And.intro ?_ ?_))))
            · show N - (i + 1) < N - s.1
              omega
            · show i + 1 ≤ N
              omega
            · rw [hd1]
              show h2.es.map kl = (ateF S (S.t.start + (i : Int)) b).E ++ _
              rw [hh2, hte]
            · show Hp ⟨w, M, I⟩ [blk p (telC sb (daysF S th ⟨st0, 0, l0, []⟩ (i + 1)).x (S.t.start + ((i + 1 : Nat) : Int)) (daysF S th ⟨st0, 0, l0, []⟩ (i + 1)).next h2.A h2.es.length h2.c) 124, row 71 5 (.slice h2.A h2.es.length h2.c) h2.es.length (ensC h2.es), blk sb (stoC S dv) 120, blk r0 (stC st0) 44] [EnF h2.es, Sl evR (.slice t.1.A t.1.n t.1.c) (daysF S th ⟨st0, 0, l0, []⟩ (i + 1)).l, Sl dueR (.slice dv.A dv.n dv.c) S.dues] w5
              rw [hd1]
              show Hp ⟨w, M, I⟩ [blk p (telC sb (nightF S (S.t.start + (i : Int)) (ateF S (S.t.start + (i : Int)) b).x (ateF S (S.t.start + (i : Int)) b).next).1 (S.t.start + ((i + 1 : Nat) : Int)) (nightF S (S.t.start + (i : Int)) (ateF S (S.t.start + (i : Int)) b).x (ateF S (S.t.start + (i : Int)) b).next).2.1 h2.A h2.es.length h2.c) 124, row 71 5 (.slice h2.A h2.es.length h2.c) h2.es.length (ensC h2.es), blk sb (stoC S dv) 120, blk r0 (stC st0) 44] [EnF h2.es, Sl evR (.slice t.1.A t.1.n t.1.c) (ateF S (S.t.start + (i : Int)) b).l, Sl dueR (.slice dv.A dv.n dv.c) S.dues] w5
              exact Hp.keep H5
          · have q2 : ¬ S.t.start + (i : Int) ≤ th := eth.symm ▸ q2
            have hd1 : daysF S th ⟨st0, 0, l0, []⟩ (i + 1) = ateF S (S.t.start + (i : Int)) b := by
              rw [hb]; show oneDay S th _ _ = _; unfold oneDay; rw [if_neg q2]
            refine load_rule tok H3 (v := .int .i32 (S.t.start + (i : Int))) rfl ?_
            refine store_as tok H3 (telC sb (ateF S (S.t.start + (i : Int)) b).x (IntKind.i32.wrap (S.t.start + (i : Int) + 1)) (ateF S (S.t.start + (i : Int)) b).next t.2.A t.2.es.length t.2.c) rfl rfl rfl rfl rfl fun w5 H5 => ?_
            rw [edn] at H5
            refine Exists.intro (i + 1, t.1, t.2) (And.intro ⟨rfl, trivial⟩ (And.intro ?_ (And.intro ?_ (And.intro ?_ ?_))))
            · show N - (i + 1) < N - s.1
              omega
            · show i + 1 ≤ N
              omega
            · rw [hd1]
              exact hte
            · show Hp ⟨w, M, I⟩ [blk p (telC sb (daysF S th ⟨st0, 0, l0, []⟩ (i + 1)).x (S.t.start + ((i + 1 : Nat) : Int)) (daysF S th ⟨st0, 0, l0, []⟩ (i + 1)).next t.2.A t.2.es.length t.2.c) 124, row 71 5 (.slice t.2.A t.2.es.length t.2.c) t.2.es.length (ensC t.2.es), blk sb (stoC S dv) 120, blk r0 (stC st0) 44] [EnF t.2.es, Sl evR (.slice t.1.A t.1.n t.1.c) (daysF S th ⟨st0, 0, l0, []⟩ (i + 1)).l, Sl dueR (.slice dv.A dv.n dv.c) S.dues] w5
              rw [hd1]
              exact Hp.keep H5

    · have q : ¬ S.t.start + (i : Int) ≤ IntKind.i32.wrap (mn through 3640000 + 1) := q
      rw [hp1, ← eth] at q
      have hiN2 : i = N := by omega
      rw [hiN2] at hEs H6
      exact Exists.intro s.2.2 (And.intro trivial (And.intro hEs (Exists.intro (S.t.start + (N : Int)) (Exists.intro (((daysF S th ⟨st0, 0, l0, []⟩ N).next : Nat) : Int) (Hp.keep H6)))))
  · intro h j w5 hW
    have hEs := hW.1
    refine Exists.elim hW.2 fun day hW2 => Exists.elim hW2 fun nx H6 => ?_
    refine draw_rule (A := [blk r0 (stC st0) 44]) tok tdr H6 [0, 1, 2, 3, 8, 4, 5, 6, 7, 9] [0, 1, 3, 7, 0, 16, 48, 112, 15, 511] rfl ?_
    refine pass_rule _ (fun w h => load_rule tok h (v := stV (daysF S th ⟨st0, 0, l0, []⟩ N).x) rfl ⟨rfl, rfl⟩) ?_
    refine imp_rule (fun X wx hw => store_as tok hw (stC (daysF S th ⟨st0, 0, l0, []⟩ N).x) rfl rfl rfl rfl rfl fun w1 H1 => imp_done H1 ?_)
    refine pass_rule _ (fun w hw => load_rule tok hw (v := .slice h.A h.es.length h.c) rfl ⟨rfl, rfl⟩) ?_
    refine done_rule fun w6 H7 => ?_
    refine Exists.intro ⟨r0, 0, none⟩ (Exists.intro (stV (daysF S th ⟨st0, 0, l0, []⟩ N).x) (And.intro rfl (And.intro (Hp.ld (T := tb) tok H7 rfl) ?_)))
    refine Exists.intro ((daysF S th ⟨st0, 0, l0, []⟩ N).x, h) (And.intro rfl (And.intro ⟨l0, el0 ▸ ha.1, el0 ▸ ha.2, ?_, ?_⟩ (Hp.keep H7)))
    · show (daysF S th ⟨st0, 0, l0, []⟩ N).x = _
      rw [← eth, eN]; rfl
    · show h.es.map kl = _
      rw [hEs, ← eth, eN]; rfl
end Go.Proofs.YtjlfjjgjghdokaaGreatDoor
set_option linter.unusedVariables false
namespace Go.Proofs.YtjlfjjgjghdokaaGreatDoor
open Go Go.Proofs Go.Wk
theorem roll_day {hs : List Int} {s k d : Int} (h : rollR hs s k (some d)) : dayB d = true := by
  obtain ⟨p, _, h2⟩ := h
  cases p with
  | none => cases h2
  | some p =>
    have h3 : nextR hs p (some d) := h2
    have h4 := h3.2.1
    unfold openB at h4
    simp only [Bool.and_eq_true] at h4
    exact h4.1
theorem sto_ok {t : Tm} (hin : TmIn t) (ok : TmOk t) {loan : Int} {hs : List Int} {ds : List (Int × Int)} (h : DuesR t hs t.months.toNat ds) : StoOk ⟨loan, t, ds⟩ := by
  have hm := ok.months
  refine ⟨hin, ok, fun d hd => ?_, ?_⟩
  · obtain ⟨i, hi, e⟩ := List.mem_iff_getElem.1 hd
    have hi : i < ds.length := hi
    obtain ⟨day, s, r1, r2, r3⟩ := h.at_ i (by rw [← h.len]; exact hi)
    rw [List.getElem?_eq_getElem hi, e] at r3
    have hb := roll_day r1
    rw [← (Prod.mk.inj (Option.some.inj r3)).1] at hb
    simp only [dayB, Bool.and_eq_true, decide_eq_true_eq] at hb
    exact hb
  · show 1 ≤ ds.length ∧ ds.length ≤ 480
    rw [h.len]; omega
theorem storyNew (loan : Int) (t : Tm) (hin : TmIn t) (A : Option Addr) (n c : Nat) (hs : List Int) (ht : tmB t = true) (hh : holyB hs = true) (w : World) (M I : BS) (hM : ∀ b, ¬ M b) (H : Hp ⟨w, M, I⟩ [] [Sl dayR (.slice A n c) hs] w) :
    Ctr Tryz.prog 13 [.int .u32 loan, tmV t, .slice A n c] w M I (fun a : Nat × SV × List (Int × Int) => .tuple #[.pointer (some ⟨a.1, 0, none⟩), .nilIface]) (fun a => DuesR t hs t.months.toNat a.2.2) (fun a => [blk a.1 (stoC ⟨loan, t, a.2.2⟩ a.2.1) 120]) (fun a => [Sl dueR (.slice a.2.1.A a.2.1.n a.2.1.c) a.2.2]) := by
  refine Exe.of_ev tok Tryz.call13 Tryz.func13 rfl rfl rfl ?_
  refine box_as H (tmC t) rfl fun b w1 H1 => ?_
  refine load_rule tok H1 (v := tmV t) rfl ?_
  refine call_rule H1 (fun M I h0 h => dues t hin A n c hs ht hh _ M I (h0 rfl) h) fun a w2 ha H2 => ?_
  refine load_rule tok H2 (v := tmV t) rfl ?_
  refine box_as H2 (stoC ⟨loan, t, a.2⟩ a.1) rfl fun s w3 H3 => ?_
  exact Exists.intro (s, a.1, a.2) (And.intro rfl (And.intro ha (Hp.keep H3)))
theorem row_ldA {P : Program} {T : Tab} {K : Value → World → Prop} {w : World} {B : Base} {S S' : List Asn} {F : List Fact} (hT : T.Ok P) (H : Hp B S F w) {A : Option Addr} {b o e sz n c : Nat} {cs : List Value} {t : TypeId} (v : Value) (hA : A = some ⟨b, 0, none⟩) [hp : TakeR S (.slice A n c) e sz n cs S'] (h : ldV (T t) cs o = some v) (k : K v w) : LoadK P K w t (.pointer (some ⟨b, o, none⟩)) := by
  subst hA
  obtain ⟨fa, ha⟩ := H.own (A := row e sz (.slice (some ⟨b, 0, none⟩) n c) n cs) (hp := ⟨hp.perm⟩)
  obtain ⟨_, _, hc, _⟩ := row_cells ha rfl
  have := hc.of_ld hT h
  rw [Nat.zero_add] at this
  exact this.load k
theorem row_at {w : World} {B : Base} {S S' : List Asn} {F : List Fact} {A : Option Addr} {e sz n c : Nat} {cs : List Value} (H : Hp B S F w) [hp : TakeR S (.slice A n c) e sz n cs S'] (h : n ≠ 0) : ∃ b, A = some ⟨b, 0, none⟩ := by
  obtain ⟨fa, hfa⟩ := Hp.own (A := row e sz (.slice A n c) n cs) (S' := S') (hp := ⟨hp.perm⟩) H
  obtain ⟨A', c', e1, _, _, hb⟩ := row_shape hfa
  injection e1 with e1 e2 e3
  rw [e1]
  exact hb h
end Go.Proofs.YtjlfjjgjghdokaaGreatDoor
