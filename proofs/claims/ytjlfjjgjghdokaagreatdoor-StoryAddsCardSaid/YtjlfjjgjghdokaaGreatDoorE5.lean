/- A night: late fees, a day's interest: the walk of night. -/
import Derived.Test.YtjlfjjgjghdokaaGreatDoorE4
set_option linter.unusedVariables false
namespace Go.Proofs.YtjlfjjgjghdokaaGreatDoor
open Go Go.Proofs Go.Wk
/-- How many days a day counts. -/
noncomputable def dayN (b n : Int) : Int := Classical.epsilon fun r => OneR b n r
theorem dayN_eq {b n r : Int} (h : OneR b n r) : dayN b n = r := (Classical.epsilon_spec (p := fun r => OneR b n r) ⟨r, h⟩).one h
/-- What a day brings, and what is carried on. -/
noncomputable def brings (parts b prin carry n : Int) : Int × Int := (((dayX parts.toNat prin.toNat (dayN b n).toNat carry.toNat / unitN b : Nat) : Int), ((dayX parts.toNat prin.toNat (dayN b n).toNat carry.toNat % unitN b : Nat) : Int))
theorem brings_of {pN p c : Nat} {b n : Int} {a : Nat × Nat} (h : DayR pN b p c n a) : brings pN b p c n = ((a.1 : Int), (a.2 : Int)) := by
  obtain ⟨r, h1, h2⟩ := h.ex
  unfold brings
  rw [dayN_eq h1, h2]
  rfl
theorem dayI (parts b prin carry n : Int) (h0 : 0 ≤ parts) (hr : rateB parts b = true) (hp0 : 0 ≤ prin) (hp : prin ≤ 1000000000000) (hn1 : dayB n = true) (hn2 : n < 3652058) (hc0 : 0 ≤ carry) (hc : carry < (unitN b : Int)) (w : World) (M I : BS) (H : Hp ⟨w, M, I⟩ [] [] w) :
    Ctr Tryz.prog 100 [rateV parts b, .int .i64 prin, .int .i32 n, .int .u64 carry] w M I (fun _ : Unit => .tuple #[.int .i64 (brings parts b prin carry n).1, .int .u64 (brings parts b prin carry n).2, .nilIface]) (fun _ => 0 ≤ (brings parts b prin carry n).1 ∧ (brings parts b prin carry n).1 ≤ 10000000000 ∧ 0 ≤ (brings parts b prin carry n).2 ∧ (brings parts b prin carry n).2 < (unitN b : Int)) (fun _ => []) (fun _ => []) := by
  have e1 : parts = ((parts.toNat : Nat) : Int) := by omega
  have e2 : prin = ((prin.toNat : Nat) : Int) := by omega
  have e3 : carry = ((carry.toNat : Nat) : Int) := by omega
  have hpp := rate_parts hr
  have hcn : carry.toNat < unitN b := by omega
  have h := day_ parts b n parts.toNat prin.toNat carry.toNat e1 hr (by omega) hn1 hn2 hcn w M I H
  rw [← e2, ← e3] at h
  refine h.imp fun a w' ha H' => ?_
  have hb := brings_of ha
  rw [← e1, ← e2, ← e3] at hb
  have b1 := ha.bd (by omega) (by omega) hcn
  have b2 := ha.carry
  refine ⟨(), ?_, ?_, H'⟩
  · rw [hb]
  · rw [hb]
    exact ⟨by omega, by omega, by omega, by omega⟩
/-- Late fees: what of the dues isn't looked at yet. -/
def lateGo (t : Tm) (loan day paid : Int) : List (Int × Int) → Nat → Int → Nat × Int × List (Key × List Leg)
  | [], i, f => (i, f, [])
  | d :: r, i, f => if d.1 + t.grace ≤ day then (if paid < d.2 ∧ 0 < t.fee then ((lateGo t loan day paid r (i + 1) (f + t.fee)).1, (lateGo t loan day paid r (i + 1) (f + t.fee)).2.1, (⟨loan, day, 3, (i : Int) + 1⟩, refMade [⟨4, t.fee⟩, ⟨7, -t.fee⟩]) :: (lateGo t loan day paid r (i + 1) (f + t.fee)).2.2) else lateGo t loan day paid r (i + 1) f) else (i, f, [])
structure StoOk (S : Sto) : Prop where
  tin : TmIn S.t
  ok : TmOk S.t
  days : ∀ d, d ∈ S.dues → 0 ≤ d.1 ∧ d.1 ≤ 3652058
  len : 1 ≤ S.dues.length ∧ S.dues.length ≤ 480
theorem StoOk.rate {S : Sto} (h : StoOk S) : rateB S.t.parts S.t.basis = true := by
  have h1 := h.ok.parts
  have h2 := h.ok.basis
  simp only [rateB, Bool.and_eq_true, decide_eq_true_eq]
  refine ⟨h1, ?_⟩
  rcases h2 with e | e <;> rw [e] <;> decide
structure StB (S : Sto) (k : Int) (x : St) : Prop where
  fees : 0 ≤ x.fees ∧ x.fees ≤ k
  int : 0 ≤ x.int ∧ x.int ≤ k
  prin : 0 ≤ x.prin ∧ x.prin ≤ 1000000000000
  carry : 0 ≤ x.carry ∧ x.carry < (unitN S.t.basis : Int)
  paid : 0 ≤ x.paid ∧ x.paid ≤ k
  susp : 0 ≤ x.susp ∧ x.susp ≤ k
  recv : 0 ≤ x.recv ∧ x.recv ≤ k
  cash : 0 ≤ x.cash ∧ x.cash ≤ k
noncomputable def nightF (S : Sto) (day : Int) (x : St) (next : Nat) : St × Nat × List (Key × List Leg) :=
  if x.status = 1 then
    ({ x with fees := (lateGo S.t S.loan day x.paid (S.dues.drop next) next x.fees).2.1, int := x.int + (brings S.t.parts S.t.basis x.prin x.carry day).1, carry := (brings S.t.parts S.t.basis x.prin x.carry day).2 },
      (lateGo S.t S.loan day x.paid (S.dues.drop next) next x.fees).1,
      (lateGo S.t S.loan day x.paid (S.dues.drop next) next x.fees).2.2 ++ [(⟨S.loan, day, 2, 0⟩, refMade [⟨3, (brings S.t.parts S.t.basis x.prin x.carry day).1⟩, ⟨6, -(brings S.t.parts S.t.basis x.prin x.carry day).1⟩])])
  else (x, next, [])
theorem lateGo_bd (t : Tm) (loan day paid : Int) (h : 0 ≤ t.fee ∧ t.fee ≤ 1000000000) : ∀ (l : List (Int × Int)) (i : Nat) (f : Int), i ≤ (lateGo t loan day paid l i f).1 ∧ (lateGo t loan day paid l i f).1 ≤ i + l.length ∧ f ≤ (lateGo t loan day paid l i f).2.1 ∧ (lateGo t loan day paid l i f).2.1 ≤ f + 1000000000 * (l.length : Int) ∧ (lateGo t loan day paid l i f).2.2.length ≤ l.length
  | [], i, f => by simp only [lateGo, List.length_nil]; omega
  | d :: r, i, f => by
    have h1 := lateGo_bd t loan day paid h r (i + 1) (f + t.fee)
    have h2 := lateGo_bd t loan day paid h r (i + 1) f
    simp only [lateGo, List.length_cons]
    split
    · split
      · simp only [List.length_cons]; omega
      · omega
    · simp only [List.length_nil]; omega
def appK (E : List (Key × List Leg)) (q : Nat × Int × List (Key × List Leg)) : Nat × Int × List (Key × List Leg) := (q.1, q.2.1, E ++ q.2.2)
structure NS where
  i : Nat
  f : Int
  h : Hd
  E : List (Key × List Leg)
structure NInv (S : Sto) (day : Int) (x : St) (next : Nat) (h0 : Hd) (s : NS) : Prop where
  hi : s.i ≤ S.dues.length
  hn : next ≤ s.i
  hf : 0 ≤ s.f ∧ s.f ≤ x.fees + 1000000000 * (s.i : Int)
  go : lateGo S.t S.loan day x.paid (S.dues.drop next) next x.fees = appK s.E (lateGo S.t S.loan day x.paid (S.dues.drop s.i) s.i s.f)
  es : s.h.es.map kl = h0.es.map kl ++ s.E
  el : s.h.es.length ≤ h0.es.length + s.i
theorem lateGo_yes {t : Tm} {loan day paid : Int} {d : Int × Int} {r : List (Int × Int)} {i : Nat} {f : Int} (h1 : d.1 + t.grace ≤ day) (h2 : paid < d.2 ∧ 0 < t.fee) : lateGo t loan day paid (d :: r) i f = appK [(⟨loan, day, 3, (i : Int) + 1⟩, refMade [⟨4, t.fee⟩, ⟨7, -t.fee⟩])] (lateGo t loan day paid r (i + 1) (f + t.fee)) := by
  rw [lateGo, if_pos h1, if_pos h2]; rfl
theorem lateGo_no {t : Tm} {loan day paid : Int} {d : Int × Int} {r : List (Int × Int)} {i : Nat} {f : Int} (h1 : d.1 + t.grace ≤ day) (h2 : ¬ (paid < d.2 ∧ 0 < t.fee)) : lateGo t loan day paid (d :: r) i f = lateGo t loan day paid r (i + 1) f := by
  rw [lateGo, if_pos h1, if_neg h2]
theorem lateGo_stop {t : Tm} {loan day paid : Int} {d : Int × Int} {r : List (Int × Int)} {i : Nat} {f : Int} (h1 : ¬ d.1 + t.grace ≤ day) : lateGo t loan day paid (d :: r) i f = (i, f, []) := by
  rw [lateGo, if_neg h1]
theorem appK_app (E E' : List (Key × List Leg)) (q : Nat × Int × List (Key × List Leg)) : appK E (appK E' q) = appK (E ++ E') q := by unfold appK; simp
theorem NInv.no {S : Sto} {day : Int} {x : St} {next : Nat} {h0 : Hd} {s : NS} (v : NInv S day x next h0 s) {d : Int × Int} (hd : S.dues[s.i]? = some d) (h1 : d.1 + S.t.grace ≤ day) (h2 : ¬ (x.paid < d.2 ∧ 0 < S.t.fee)) : NInv S day x next h0 ⟨s.i + 1, s.f, s.h, s.E⟩ := by
  have hl := (List.getElem?_eq_some_iff.1 hd).1
  refine ⟨by show s.i + 1 ≤ _; omega, by show next ≤ s.i + 1; have := v.hn; omega, ?_, ?_, v.es, by show s.h.es.length ≤ _; have := v.el; simp only; omega⟩
  · have := v.hf; simp only; omega
  · rw [v.go, drop_one hd, lateGo_no h1 h2]
theorem NInv.yes {S : Sto} {day : Int} {x : St} {next : Nat} {h0 h' : Hd} {s : NS} (v : NInv S day x next h0 s) (hok : 0 ≤ S.t.fee ∧ S.t.fee ≤ 1000000000) {d : Int × Int} (hd : S.dues[s.i]? = some d) (h1 : d.1 + S.t.grace ≤ day) (h2 : x.paid < d.2 ∧ 0 < S.t.fee) (hp : posted s.h S day 3 ((s.i : Int) + 1) [⟨4, S.t.fee⟩, ⟨7, -S.t.fee⟩] h') :
    NInv S day x next h0 ⟨s.i + 1, s.f + S.t.fee, h', s.E ++ [(⟨S.loan, day, 3, (s.i : Int) + 1⟩, refMade [⟨4, S.t.fee⟩, ⟨7, -S.t.fee⟩])]⟩ := by
  have hl := (List.getElem?_eq_some_iff.1 hd).1
  obtain ⟨e, he, hk⟩ := hp
  refine ⟨by show s.i + 1 ≤ _; omega, by show next ≤ s.i + 1; have := v.hn; omega, ?_, ?_, ?_, ?_⟩
  · have := v.hf; simp only; omega
  · rw [v.go, drop_one hd, lateGo_yes h1 h2, appK_app]
  · simp only
    rw [he, List.map_append, v.es, List.append_assoc]
    simp [hk]
  · simp only
    rw [he, List.length_append]
    have := v.el
    simp only [List.length_cons, List.length_nil]; omega
/-- At the end of the late fees. -/
structure NEnd (S : Sto) (day : Int) (x : St) (next : Nat) (h0 : Hd) (s : NS) : Prop where
  i : s.i = (lateGo S.t S.loan day x.paid (S.dues.drop next) next x.fees).1
  f : s.f = (lateGo S.t S.loan day x.paid (S.dues.drop next) next x.fees).2.1
  es : s.h.es.map kl = h0.es.map kl ++ (lateGo S.t S.loan day x.paid (S.dues.drop next) next x.fees).2.2
  el : s.h.es.length ≤ h0.es.length + 480
theorem NInv.stop {S : Sto} {day : Int} {x : St} {next : Nat} {h0 : Hd} {s : NS} (v : NInv S day x next h0 s) (hlen : S.dues.length ≤ 480) {d : Int × Int} (hd : S.dues[s.i]? = some d) (h1 : ¬ d.1 + S.t.grace ≤ day) : NEnd S day x next h0 s := by
  have e : lateGo S.t S.loan day x.paid (S.dues.drop next) next x.fees = (s.i, s.f, s.E) := by
    rw [v.go, drop_one hd, lateGo_stop h1]; unfold appK; simp
  have := v.el
  have := v.hi
  exact ⟨by rw [e], by rw [e], by rw [e]; exact v.es, by omega⟩
theorem NInv.over {S : Sto} {day : Int} {x : St} {next : Nat} {h0 : Hd} {s : NS} (v : NInv S day x next h0 s) (hlen : S.dues.length ≤ 480) (h1 : ¬ s.i < S.dues.length) : NEnd S day x next h0 s := by
  have e : lateGo S.t S.loan day x.paid (S.dues.drop next) next x.fees = (s.i, s.f, s.E) := by
    rw [v.go, List.drop_eq_nil_of_le (by omega), lateGo]; unfold appK; simp
  have := v.el
  have := v.hi
  exact ⟨by rw [e], by rw [e], by rw [e]; exact v.es, by omega⟩
theorem NEnd.night {S : Sto} {day : Int} {x : St} {next : Nat} {h0 h' : Hd} {s : NS} (v : NEnd S day x next h0 s) (hst : x.status = 1) (hp : posted s.h S day 2 0 [⟨3, (brings S.t.parts S.t.basis x.prin x.carry day).1⟩, ⟨6, -(brings S.t.parts S.t.basis x.prin x.carry day).1⟩] h') :
    (nightF S day x next).1 = { x with fees := s.f, int := x.int + (brings S.t.parts S.t.basis x.prin x.carry day).1, carry := (brings S.t.parts S.t.basis x.prin x.carry day).2 } ∧ (nightF S day x next).2.1 = s.i ∧ h'.es.map kl = h0.es.map kl ++ (nightF S day x next).2.2 := by
  obtain ⟨e, he, hk⟩ := hp
  unfold nightF
  rw [if_pos hst]
  refine ⟨by rw [v.f], by rw [v.i], ?_⟩
  rw [he, List.map_append, v.es, List.append_assoc]
  simp [hk]
set_option maxRecDepth 20000 in
set_option maxHeartbeats 2000000 in
theorem night (p sb : Nat) (S : Sto) (hS : StoOk S) (dv : SV) (x : St) (k : Int) (hk : k ≤ 8000000000000000000) (hx : StB S k x) (day : Int) (hd1 : dayB day = true) (hd2 : day < 3652058) (next : Nat) (hnx : next ≤ S.dues.length) (h : Hd) (hl : h.es.length ≤ 900000000) (w : World) (M I : BS)
    (H : Hp ⟨w, M, I⟩ (telA p sb S dv x day next h) [EnF h.es, Sl dueR (.slice dv.A dv.n dv.c) S.dues] w) :
    Ctr Tryz.prog 45 [.pointer (some ⟨p, 0, none⟩)] w M I (fun _ : Hd => .tuple #[]) (fun h' => h'.es.map kl = h.es.map kl ++ (nightF S day x next).2.2) (fun h' => telA p sb S dv (nightF S day x next).1 day (nightF S day x next).2.1 h') (fun h' => [EnF h'.es]) := by
  obtain ⟨vA, vn, vc⟩ := dv
  have hlen := hS.len
  obtain ⟨hvn, _, _⟩ := H.sll (A := vA) (n := vn) (c := vc)
  obtain ⟨b, o, eA⟩ := H.slAt (A := vA) (n := vn) (c := vc) (by omega)
  subst eA
  subst hvn
  have hfee := hS.ok.fee
  have hgr := hS.ok.grace
  have hdays := hS.days
  have eg : IntKind.i32.wrap S.t.grace = S.t.grace := i32w (by omega) (by omega)
  have hrate := hS.rate
  have hp0 := hS.tin.parts.1
  refine Exe.of_ev tok Tryz.call45 Tryz.func45 rfl rfl rfl ?_
  refine load_rule tok H (v := .int .u8 x.status) rfl ?_
  refine br (fun q => ?_) (fun q => ?_)
  · have q : x.status ≠ 1 := by simpa using q
    have e0 : nightF S day x next = (x, next, []) := by unfold nightF; rw [if_neg q]
    refine Exists.intro h (And.intro rfl (And.intro ?_ ?_))
    · rw [e0, List.append_nil]
    · rw [e0]
      exact Hp.keep H
  have q : x.status = 1 := by simpa using q
  refine loop_out tok (σ := NS) (τ := NS) 340282366920938463463374607431768209408 0 (fun _ => []) (fun s w' => NInv S day x next h s ∧ Hp ⟨w, M, I⟩ (telA p sb S ⟨some ⟨b, o, none⟩, S.dues.length, vc⟩ { x with fees := s.f } day s.i s.h) [EnF s.h.es, Sl dueR (.slice (some ⟨b, o, none⟩) S.dues.length vc) S.dues] w') (fun s => S.dues.length - s.i) ⟨next, x.fees, h, []⟩ (fun _ => []) (fun s w' => NEnd S day x next h s ∧ Hp ⟨w, M, I⟩ (telA p sb S ⟨some ⟨b, o, none⟩, S.dues.length, vc⟩ { x with fees := s.f } day s.i s.h) [EnF s.h.es, Sl dueR (.slice (some ⟨b, o, none⟩) S.dues.length vc) S.dues] w') rfl rfl trivial
    ⟨⟨hnx, Nat.le_refl _, by have := hx.fees; simp only; omega, rfl, by simp, Nat.le_add_right _ _⟩, H⟩ ?_ ?_
  rotate_left
  · intro s j w1 hW
    have hE := hW.1
    have H1 := hW.2
    have hpr := hx.prin
    have hca := hx.carry
    have hxi := hx.int
    refine draw_rule (A := []) tok tdr H1 [0, 1, 2, 3, 4, 5, 6, 7, 8, 9, 10, 11, 12, 13, 14, 15, 16, 17, 18, 19, 20, 21, 22, 23, 24, 25, 26, 27, 28, 29, 30] [0, 1, 3, 7, 15, 31, 63, 127, 0, 256, 768, 1792, 3840, 7936, 0, 16384, 49152, 114688, 0, 262144, 786432, 1835008, 3932160, 8388607, 16777215, 33554431, 33554431, 33554431, 67108863, 402653183, 1073741823] rfl ?_
    refine pass_rule _ (fun w h => load_rule tok h (v := .pointer (some ⟨sb, 0, none⟩)) rfl ⟨rfl, rfl⟩) ?_
    refine pass_rule _ (fun w h => load_rule tok h (v := rateV S.t.parts S.t.basis) rfl ⟨rfl, rfl⟩) ?_
    refine pass_rule _ (fun w h => load_rule tok h (v := .int .i64 x.prin) rfl ⟨rfl, rfl⟩) ?_
    refine pass_rule _ (fun w h => load_rule tok h (v := .int .i32 day) rfl ⟨rfl, rfl⟩) ?_
    refine pass_rule _ (fun w h => load_rule tok h (v := .int .u64 x.carry) rfl ⟨rfl, rfl⟩) ?_
    refine imp_rule (fun X wx h => call_rule h (fun M I _ h => dayI S.t.parts S.t.basis x.prin x.carry day hp0 hrate hpr.1 hpr.2 hd1 hd2 hca.1 hca.2 _ M I h) fun _ w1 hbr H1 => imp_done H1 ?_)
    refine done_rule fun w2 H2 => ?_
    have ei : IntKind.i64.wrap (x.int + (brings S.t.parts S.t.basis x.prin x.carry day).1) = x.int + (brings S.t.parts S.t.basis x.prin x.carry day).1 := i64w (by omega) (by omega)
    refine load_rule tok H2 (v := .int .i64 x.int) rfl ?_
    refine store_as tok H2 (telC sb { x with fees := s.f, int := IntKind.i64.wrap (x.int + (brings S.t.parts S.t.basis x.prin x.carry day).1) } day s.i s.h.A s.h.es.length s.h.c) rfl rfl rfl rfl rfl fun w3 H3 => ?_
    refine store_as tok H3 (telC sb { x with fees := s.f, int := IntKind.i64.wrap (x.int + (brings S.t.parts S.t.basis x.prin x.carry day).1), carry := (brings S.t.parts S.t.basis x.prin x.carry day).2 } day s.i s.h.A s.h.es.length s.h.c) rfl rfl rfl rfl rfl fun w4 H4 => ?_
    rw [ei] at H4
    have H4 : Hp ⟨w, M, I⟩ (telA p sb S ⟨some ⟨b, o, none⟩, S.dues.length, vc⟩ { x with fees := s.f, int := x.int + (brings S.t.parts S.t.basis x.prin x.carry day).1, carry := (brings S.t.parts S.t.basis x.prin x.carry day).2 } day s.i s.h) [EnF s.h.es, Sl dueR (.slice (some ⟨b, o, none⟩) S.dues.length vc) S.dues] w4 := Hp.keep H4
    have hle : s.h.es.length ≤ 1000000000 := by have := hE.el; omega
    refine call_rule H4 (fun M I _ h => both p sb S ⟨some ⟨b, o, none⟩, S.dues.length, vc⟩ { x with fees := s.f, int := x.int + (brings S.t.parts S.t.basis x.prin x.carry day).1, carry := (brings S.t.parts S.t.basis x.prin x.carry day).2 } day s.i s.h hle 2 0 3 6 (brings S.t.parts S.t.basis x.prin x.carry day).1 ⟨by decide, by decide⟩ ⟨by decide, by decide⟩ ⟨by omega, by omega⟩ _ M I h) fun h' w5 hh' H5 => ?_
    have en := hE.night q hh'
    refine Exists.intro h' (And.intro rfl (And.intro en.2.2 ?_))
    rw [en.1, en.2.1]
    exact Hp.keep H5
  intro s j w1 hW
  have hI := hW.1
  have H1 := hW.2
  have hsi := hI.hi
  have hsf := hI.hf
  have hxf := hx.fees
  refine draw_rule (A := []) tok tdr H1 [0, 1, 2, 3, 4, 5, 6, 7, 8, 9, 10, 11, 12, 13, 14, 15, 16, 17, 18, 19, 20, 21, 22, 23, 24, 25, 26, 27, 28, 29, 30, 31, 32, 33, 34, 35, 36, 37, 38, 39, 40, 41, 42, 43] [0, 1, 3, 7, 0, 16, 48, 112, 240, 496, 1008, 2032, 4095, 8191, 16383, 32767, 65535, 131071, 262143, 524287, 1048575, 16383, 2113535, 6307839, 14696447, 33554431, 67108863, 134217727, 16383, 268451839, 805322751, 1879064575, 4026548223, 8321515519, 16911450111, 34091319295, 68451057663, 137438953471, 16383, 274877923327, 824633737215, 1924145364991, 4398046511103, 8796093022207] rfl ?_
  refine pass_rule _ (fun w h => load_rule tok h (v := .int .i64 (s.i : Int)) rfl ⟨rfl, rfl⟩) ?_
  refine pass_rule _ (fun w h => load_rule tok h (v := .pointer (some ⟨sb, 0, none⟩)) rfl ⟨rfl, rfl⟩) ?_
  refine pass_rule _ (fun w h => load_rule tok h (v := .slice (some ⟨b, o, none⟩) S.dues.length vc) rfl ⟨rfl, rfl⟩) ?_
  refine brd (fun q2 => ?_) (fun q2 => ?_)
  · have hlt : s.i < S.dues.length := Int.ofNat_lt.1 q2
    have i1 : (0 : Int) ≤ (s.i : Int) := Int.natCast_nonneg _
    refine Exists.elim (show ∃ d, S.dues[s.i]? = some d from ⟨_, List.getElem?_eq_getElem hlt⟩) fun d hd => ?_
    have hdd := hdays d (List.mem_of_getElem? hd)
    have ew : IntKind.i32.wrap (d.1 + IntKind.i32.wrap S.t.grace) = d.1 + S.t.grace := by rw [eg]; exact i32w (by omega) (by omega)
    refine pass_rule _ (fun w h => load_rule tok h (v := .pointer (some ⟨sb, 0, none⟩)) rfl ⟨rfl, rfl⟩) ?_
    refine pass_rule _ (fun w h => load_rule tok h (v := .slice (some ⟨b, o, none⟩) S.dues.length vc) rfl ⟨rfl, rfl⟩) ?_
    refine pass_rule _ (fun w h => load_rule tok h (v := .int .i64 (s.i : Int)) rfl ⟨rfl, rfl⟩) ?_
    refine pass_rule _ (fun w h => idx_own tok rfl rfl i1 q2 ⟨rfl, rfl⟩) ?_
    refine pass_rule _ (fun w h => sl_ld (o := o) (n := S.dues.length) (c := vc) (j := s.i) (f := 0) (r := dueR) (xs := S.dues) (x := d) tok h (.int .i32 d.1) hd rfl (fun _ _ => rfl) ⟨rfl, rfl⟩) ?_
    refine pass_rule _ (fun w h => load_rule tok h (v := .pointer (some ⟨sb, 0, none⟩)) rfl ⟨rfl, rfl⟩) ?_
    refine pass_rule _ (fun w h => load_rule tok h (v := .int .i64 S.t.grace) rfl ⟨rfl, rfl⟩) ?_
    refine pass_rule _ (fun w h => load_rule tok h (v := .int .i32 day) rfl ⟨rfl, rfl⟩) ?_
    refine done_rule fun w2 H2 => ?_
    refine brd (fun q3 => ?_) (fun q3 => ?_)
    · rw [ew] at q3
      refine draw_rule (A := []) tok tdr H2 [0, 1, 2, 3, 4, 5, 6, 7, 8, 9, 10, 11, 12, 13, 14, 15, 16, 17, 18, 19, 20, 21, 22, 23, 24, 25, 26, 27, 28, 29, 30] [0, 1, 3, 7, 15, 0, 32, 96, 224, 480, 992, 2016, 0, 4096, 12288, 28672, 65504, 131040, 262112, 524287, 1048575, 2097151, 4194303, 8388607, 16777215, 33554431, 67108863, 134217727, 268435455, 536870911, 1073741823] rfl ?_
      refine pass_rule _ (fun w h => load_rule tok h (v := .int .i64 x.paid) rfl ⟨rfl, rfl⟩) ?_
      refine pass_rule _ (fun w h => load_rule tok h (v := .pointer (some ⟨sb, 0, none⟩)) rfl ⟨rfl, rfl⟩) ?_
      refine pass_rule _ (fun w h => load_rule tok h (v := .slice (some ⟨b, o, none⟩) S.dues.length vc) rfl ⟨rfl, rfl⟩) ?_
      refine pass_rule _ (fun w h => load_rule tok h (v := .int .i64 (s.i : Int)) rfl ⟨rfl, rfl⟩) ?_
      refine pass_rule _ (fun w h => idx_own tok rfl rfl i1 q2 ⟨rfl, rfl⟩) ?_
      refine pass_rule _ (fun w h => sl_ld (o := o) (n := S.dues.length) (c := vc) (j := s.i) (f := 1) (r := dueR) (xs := S.dues) (x := d) tok h (.int .i64 d.2) hd rfl (fun _ _ => rfl) ⟨rfl, rfl⟩) ?_
      have ei : IntKind.i64.wrap ((s.i : Int) + 1) = ((s.i + 1 : Nat) : Int) := by rw [i64w (by omega) (by omega)]; rfl
      refine brd (fun q4 => ?_) (fun q4 => ?_)
      · refine pass_rule _ (fun w h => load_rule tok h (v := .pointer (some ⟨sb, 0, none⟩)) rfl ⟨rfl, rfl⟩) ?_
        refine pass_rule _ (fun w h => load_rule tok h (v := .int .i64 S.t.fee) rfl ⟨rfl, rfl⟩) ?_
        refine done_rule fun w3 H3 => ?_
        refine brd (fun q5 => ?_) (fun q5 => ?_)
        · have ef : IntKind.i64.wrap (s.f + S.t.fee) = s.f + S.t.fee := i64w (by omega) (by omega)
          have eu : IntKind.u32.wrap (IntKind.i64.wrap ((s.i : Int) + 1)) = (s.i : Int) + 1 := by rw [i64w (by omega) (by omega)]; exact u32_of (x := s.i + 1) (by omega)
          refine draw_rule (A := [blk p (telC sb { x with fees := s.f } day s.i s.h.A s.h.es.length s.h.c) 124]) tok tdr H3 [0, 1, 2, 3, 4, 5, 6, 7, 8, 9, 10, 11, 12, 13, 14, 15, 16, 17, 18, 19] [0, 1, 3, 7, 15, 31, 0, 64, 192, 448, 960, 1984, 4032, 8128, 16383, 32767, 65535, 131071, 262143, 524287] rfl ?_
          refine pass_kept [blk p (telC sb { x with fees := s.f } day s.i s.h.A s.h.es.length s.h.c) 124] _ (fun X w h => load_rule tok h (v := .int .i64 s.f) rfl ⟨rfl, rfl⟩) ?_
          refine pass_kept [blk p (telC sb { x with fees := s.f } day s.i s.h.A s.h.es.length s.h.c) 124] _ (fun X w h => load_rule tok h (v := .pointer (some ⟨sb, 0, none⟩)) rfl ⟨rfl, rfl⟩) ?_
          refine pass_rule _ (fun w h => load_rule tok h (v := .int .i64 S.t.fee) rfl ⟨rfl, rfl⟩) ?_
          refine imp_rule (fun X wx h => store_as tok h (telC sb { x with fees := IntKind.i64.wrap (s.f + S.t.fee) } day s.i s.h.A s.h.es.length s.h.c) rfl rfl rfl rfl rfl fun w1 H1 => imp_done H1 ?_)
          refine done_rule fun w4 H4 => ?_
          rw [ef] at H4
          have H4 : Hp ⟨w, M, I⟩ (telA p sb S ⟨some ⟨b, o, none⟩, S.dues.length, vc⟩ { x with fees := s.f + S.t.fee } day s.i s.h) [EnF s.h.es, Sl dueR (.slice (some ⟨b, o, none⟩) S.dues.length vc) S.dues] w4 := Hp.keep H4
          refine draw_rule (A := telA p sb S ⟨some ⟨b, o, none⟩, S.dues.length, vc⟩ { x with fees := s.f + S.t.fee } day s.i s.h) tok tdr H4 [0, 1, 2, 3, 4, 5, 6, 7, 8, 9, 10, 11, 12, 13, 14, 15] [0, 0, 2, 6, 14, 30, 62, 0, 128, 384, 896, 1920, 3968, 8064, 16256, 32767] rfl ?_
          refine pass_kept [blk p (telC sb { x with fees := s.f + S.t.fee } day s.i s.h.A s.h.es.length s.h.c) 124] _ (fun X w h => load_rule tok h (v := .int .i64 (s.i : Int)) rfl ⟨rfl, rfl⟩) ?_
          refine pass_kept [blk p (telC sb { x with fees := s.f + S.t.fee } day s.i s.h.A s.h.es.length s.h.c) 124] _ (fun X w h => load_rule tok h (v := .pointer (some ⟨sb, 0, none⟩)) rfl ⟨rfl, rfl⟩) ?_
          refine pass_kept [blk sb (stoC S ⟨some ⟨b, o, none⟩, S.dues.length, vc⟩) 120] _ (fun X w h => load_rule tok h (v := .int .i64 S.t.fee) rfl ⟨rfl, rfl⟩) ?_
          have hle : s.h.es.length ≤ 1000000000 := by have := hI.el; omega
          refine imp_rule (fun X wx h => call_rule h (fun M I _ h => eu.symm ▸ both p sb S ⟨some ⟨b, o, none⟩, S.dues.length, vc⟩ { x with fees := s.f + S.t.fee } day s.i s.h hle 3 ((s.i : Int) + 1) 4 7 S.t.fee ⟨by decide, by decide⟩ ⟨by decide, by decide⟩ ⟨by omega, by omega⟩ _ M I h) fun h' w1 hh' H1 => imp_done H1 ?_)
          refine done_rule fun w5 H5 => ?_
          refine load_rule tok H5 (v := .int .i64 (s.i : Int)) rfl ?_
          refine store_as tok H5 (telC sb { x with fees := s.f + S.t.fee } day (IntKind.i64.wrap ((s.i : Int) + 1)) h'.A h'.es.length h'.c) rfl rfl rfl rfl rfl fun w6 H6 => ?_
          rw [ei] at H6
          refine Exists.intro ⟨s.i + 1, s.f + S.t.fee, h', s.E ++ [(⟨S.loan, day, 3, (s.i : Int) + 1⟩, refMade [⟨4, S.t.fee⟩, ⟨7, -S.t.fee⟩])]⟩ (And.intro trivial (And.intro ?_ (And.intro ?_ ?_)))
          · show S.dues.length - (s.i + 1) < S.dues.length - s.i
            omega
          · exact hI.yes hfee hd q3 ⟨q4, q5⟩ (eu ▸ hh')
          · exact Hp.keep H6
        · refine load_rule tok H3 (v := .int .i64 (s.i : Int)) rfl ?_
          refine store_as tok H3 (telC sb { x with fees := s.f } day (IntKind.i64.wrap ((s.i : Int) + 1)) s.h.A s.h.es.length s.h.c) rfl rfl rfl rfl rfl fun w6 H6 => ?_
          rw [ei] at H6
          refine Exists.intro ⟨s.i + 1, s.f, s.h, s.E⟩ (And.intro trivial (And.intro ?_ (And.intro ?_ ?_)))
          · show S.dues.length - (s.i + 1) < S.dues.length - s.i
            omega
          · exact hI.no hd q3 fun hh => q5 hh.2
          · exact Hp.keep H6
      · refine done_rule fun w3 H3 => ?_
        refine load_rule tok H3 (v := .int .i64 (s.i : Int)) rfl ?_
        refine store_as tok H3 (telC sb { x with fees := s.f } day (IntKind.i64.wrap ((s.i : Int) + 1)) s.h.A s.h.es.length s.h.c) rfl rfl rfl rfl rfl fun w6 H6 => ?_
        rw [ei] at H6
        refine Exists.intro ⟨s.i + 1, s.f, s.h, s.E⟩ (And.intro trivial (And.intro ?_ (And.intro ?_ ?_)))
        · show S.dues.length - (s.i + 1) < S.dues.length - s.i
          omega
        · exact hI.no hd q3 fun hh => q4 hh.1
        · exact Hp.keep H6
    · rw [ew] at q3
      refine Exists.intro s (And.intro trivial ⟨hI.stop hlen.2 hd q3, Hp.keep H2⟩)
  · have hge : ¬ s.i < S.dues.length := fun hh => q2 (Int.ofNat_lt.2 hh)
    refine done_rule fun w2 H2 => ?_
    refine Exists.intro s (And.intro trivial ⟨hI.over hlen.2 hge, Hp.keep H2⟩)
end Go.Proofs.YtjlfjjgjghdokaaGreatDoor
