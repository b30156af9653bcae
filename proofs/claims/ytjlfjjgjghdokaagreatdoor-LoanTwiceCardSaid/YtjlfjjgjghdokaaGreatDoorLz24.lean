/- The document's example of a loan: what its story tells: the plain law. -/
import Derived.Test.YtjlfjjgjghdokaaGreatDoorLz23
set_option linter.unusedVariables false
namespace Go.Proofs.YtjlfjjgjghdokaaGreatDoor
open Go Go.Proofs Go.Wk Go.Pl
/-- What is due is due behind the day on which the loan began. -/
theorem roll_gt {hs : List Int} {s k d : Int} (h : rollR hs s k (some d)) (hk : 1 ≤ k) : s < d := by
  obtain ⟨p, ⟨y, m, dd, hD, e1, hp⟩, h2⟩ := h
  cases p with
  | none => cases h2
  | some n =>
    have h3 : nextR hs n (some d) := h2
    have h4 := h3.1
    unfold plainV at hp
    split at hp
    · cases hp
    · rename_i hlt
      have hp := Option.some.inj hp
      have y1 := hD.y1; have m1 := hD.m1; have m2 := hD.m2; have d1 := hD.d1; have d2 := hD.d2
      obtain ⟨a1, a2, a3, a4⟩ := on_ok (y := y) (m := m) (n := k) (by omega) (by omega)
      have hl := len_pos (y := onY y m k) (m := onM y m k)
      have hdd : 1 ≤ (if dd = lenM y m then lenM (onY y m k) (onM y m k) else min dd (lenM (onY y m k) (onM y m k))) := by
        split <;> omega
      have hn : beg (onY y m k) + offM (onY y m k) (onM y m k) ≤ n := by
        rw [hp]
        unfold numD
        omega
      have hs2 : s = beg y + offM y m + dd - 1 := by rw [← e1]; rfl
      have key : beg y + offM y m + lenM y m ≤ beg (onY y m k) + offM (onY y m k) (onM y m k) := by
        by_cases q : onY y m k = y
        · have hm : m < onM y m k := by unfold onY at q; unfold onM; omega
          have := off_mono (y := y) m1 hm (by omega)
          rw [q]
          omega
        · have hy : y + 1 ≤ onY y m k := by unfold onY at q ⊢; omega
          have b1 := beg_mono (y := y + 1) (z := onY y m k) (by omega) hy
          have b2 := beg_succ y1
          have b3 := off_end (y := y)
          have b4 := off_mono (y := y) m1 (show m < 13 by omega) (Int.le_refl _)
          have b5 := (off_bounds (y := onY y m k) (m := onM y m k) a3 (by omega)).1
          omega
      omega
theorem dues_gt {t : Tm} {hs : List Int} {n : Nat} {ds : List (Int × Int)} (h : DuesR t hs n ds) : ∀ d, d ∈ ds → t.start < d.1 := fun d hd => by
  obtain ⟨i, hi, e⟩ := List.mem_iff_getElem.1 hd
  have hi : i < ds.length := hi
  obtain ⟨day, s, r1, r2, r3⟩ := h.at_ i (by rw [← h.len]; exact hi)
  rw [List.getElem?_eq_getElem hi, e] at r3
  have := roll_gt r1 (by omega)
  rw [(Prod.mk.inj (Option.some.inj r3)).1]
  exact this
theorem late_no {t : Tm} {loan day paid : Int} {l : List (Int × Int)} {i : Nat} {f : Int} (h : ∀ d, d ∈ l → ¬ d.1 + t.grace ≤ day) : lateGo t loan day paid l i f = (i, f, []) := by
  cases l with
  | nil => rfl
  | cons d r => exact lateGo_stop (h d List.mem_cons_self)
theorem night_no {S : Sto} {day : Int} {x : St} {next : Nat} (hs : x.status = 1) (hd : ∀ d, d ∈ S.dues → ¬ d.1 + S.t.grace ≤ day) :
    nightF S day x next = ({ x with int := x.int + (brings S.t.parts S.t.basis x.prin x.carry day).1, carry := (brings S.t.parts S.t.basis x.prin x.carry day).2 }, next, [(⟨S.loan, day, 2, 0⟩, refMade [⟨3, (brings S.t.parts S.t.basis x.prin x.carry day).1⟩, ⟨6, -(brings S.t.parts S.t.basis x.prin x.carry day).1⟩])]) := by
  unfold nightF
  rw [if_pos hs, late_no (fun d hm => hd d (List.mem_of_mem_drop hm))]
  rfl
theorem dayN_act {n : Int} (h : dayB n = true) : dayN 1 n = 1 := by
  obtain ⟨r, hr⟩ := one_ex (b := 1) h
  rw [dayN_eq hr]
  obtain ⟨y, m, d, _, _, e⟩ := hr.ex
  rw [e]
  rfl
def aw8 : Tm := ⟨1, 120000, 60000, 1, 12, numD 2024 1 31, 1500, 10⟩
theorem aw8Ok : TmOk aw8 := ⟨.inl rfl, by decide, by decide, .inl rfl, by decide, by decide, by decide, by decide⟩
theorem aw8In : TmIn aw8 := ⟨⟨by decide, by decide⟩, ⟨by decide, by decide⟩, ⟨by decide, by decide⟩, ⟨by decide, by decide⟩, ⟨by decide, by decide⟩, ⟨by decide, by decide⟩, ⟨by decide, by decide⟩, ⟨by decide, by decide⟩⟩
theorem br8 {n : Int} (h : dayB n = true) (p c : Nat) : brings 60000 1 (p : Int) (c : Int) n = ((((p * 60000 + c) / 365000000 : Nat) : Int), (((p * 60000 + c) % 365000000 : Nat) : Int)) := by
  unfold brings
  rw [dayN_act h]
  unfold dayX unitN
  rw [if_neg (by decide)]
  simp only [Int.toNat_natCast]
  rfl
theorem sm_ (n : Int) (h : (decide (-100000000000000000 ≤ n) && decide (n ≤ 100000000000000000)) = true) : sml n := by
  rw [Bool.and_eq_true, decide_eq_true_eq, decide_eq_true_eq] at h
  exact h
def s8 : Int := numD 2024 1 31
def kB8 : Key × List Leg := (⟨1, s8, 1, 0⟩, [⟨1, -120000⟩, ⟨2, 120000⟩])
def kA8 : Key × List Leg := (⟨1, s8, 2, 0⟩, [⟨3, 19⟩, ⟨6, -19⟩])
def kC8 : Key × List Leg := (⟨1, s8 + 1, 2, 0⟩, [⟨3, 20⟩, ⟨6, -20⟩])
def kP8 : Key × List Leg := (⟨1, s8 + 1, 4, 1⟩, [⟨1, 60000⟩, ⟨2, -59981⟩, ⟨3, -19⟩, ⟨4, 0⟩, ⟨5, 0⟩])
def kD8 : Key × List Leg := (⟨1, s8 + 1, 2, 0⟩, [⟨3, 10⟩, ⟨6, -10⟩])
structure S8 (S : Sto) : Prop where
  loan : S.loan = 1
  t : S.t = aw8
  dues : ∀ d, d ∈ S.dues → aw8.start < d.1
theorem s8_day : dayB s8 = true ∧ dayB (s8 + 1) = true := by decide
theorem day0 {S : Sto} (h : S8 S) (l : List Ev) (hl : eatF S s8 l { st0 with prin := 120000, status := 1 } = ({ st0 with prin := 120000, status := 1 }, l, [])) {th : Int} (hth : s8 ≤ th) :
    oneDay S th s8 ⟨st0, 0, l, []⟩ = ⟨⟨0, 19, 120000, 265000000, 0, 0, 0, 0, 1⟩, 0, l, [kB8, kA8]⟩ := by
  have ht := h.t
  have e0 : S.t.start = s8 := by rw [ht]; rfl
  have e1 : S.t.prin = 120000 := by rw [ht]; rfl
  have hb : boardF S s8 ⟨st0, 0, l, []⟩ = ⟨{ st0 with prin := 120000, status := 1 }, 0, l, [kB8]⟩ := by
    unfold boardF
    rw [if_pos e0.symm, e1, h.loan, mk_dn (a := 1) (b := 2) (by decide) (by decide) (by decide) (sm_ _ (by decide)) (sm_ _ (by decide))]
    rfl
  have ha : ateF S s8 ⟨{ st0 with prin := 120000, status := 1 }, 0, l, [kB8]⟩ = ⟨{ st0 with prin := 120000, status := 1 }, 0, l, [kB8]⟩ := by
    unfold ateF
    rw [hl]
    rfl
  have hq := br8 s8_day.1 120000 0
  have hn := night_no (S := S) (day := s8) (x := { st0 with prin := 120000, status := 1 }) (next := 0) rfl (fun d hd => by
    have := h.dues d hd
    rw [ht]
    show ¬ d.1 + 10 ≤ s8
    have e : aw8.start = s8 := rfl
    omega)
  unfold oneDay
  rw [if_pos hth, hb, ha]
  unfold sleepF
  rw [hn, ht, h.loan]
  have e2 : brings aw8.parts aw8.basis ({ st0 with prin := 120000, status := 1 } : St).prin ({ st0 with prin := 120000, status := 1 } : St).carry s8 = (19, 265000000) := hq
  rw [e2, mk_up (a := 3) (b := 6) (by decide) (by decide) (by decide) (sm_ _ (by decide)) (sm_ _ (by decide))]
  rfl
theorem tell8a {S : Sto} (h : S8 S) : tellF S (s8 + 1) [] = ⟨⟨0, 39, 120000, 165000000, 0, 0, 0, 0, 1⟩, 0, [], [kB8, kA8, kC8]⟩ := by
  have ht := h.t
  have e0 : S.t.start = s8 := by rw [ht]; rfl
  have e3 : (s8 + 1 + 2 - S.t.start).toNat = 3 := by rw [e0]; decide
  have hq := br8 s8_day.2 120000 265000000
  have hn := night_no (S := S) (day := s8 + 1) (x := ⟨0, 19, 120000, 265000000, 0, 0, 0, 0, 1⟩) (next := 0) rfl (fun d hd => by
    have := h.dues d hd
    rw [ht]
    show ¬ d.1 + 10 ≤ s8 + 1
    have e : aw8.start = s8 := rfl
    omega)
  have d0 := day0 h [] rfl (th := s8 + 1) (by omega)
  unfold tellF
  rw [e3]
  show oneDay S (s8 + 1) (S.t.start + ((2 : Nat) : Int)) (oneDay S (s8 + 1) (S.t.start + ((1 : Nat) : Int)) (oneDay S (s8 + 1) (S.t.start + ((0 : Nat) : Int)) ⟨st0, 0, [], []⟩)) = _
  rw [e0, show s8 + ((0 : Nat) : Int) = s8 by omega, d0, show s8 + ((1 : Nat) : Int) = s8 + 1 by omega]
  have d1 : oneDay S (s8 + 1) (s8 + 1) ⟨⟨0, 19, 120000, 265000000, 0, 0, 0, 0, 1⟩, 0, [], [kB8, kA8]⟩ = ⟨⟨0, 39, 120000, 165000000, 0, 0, 0, 0, 1⟩, 0, [], [kB8, kA8, kC8]⟩ := by
    have hb : boardF S (s8 + 1) ⟨⟨0, 19, 120000, 265000000, 0, 0, 0, 0, 1⟩, 0, [], [kB8, kA8]⟩ = ⟨⟨0, 19, 120000, 265000000, 0, 0, 0, 0, 1⟩, 0, [], [kB8, kA8]⟩ := by
      unfold boardF
      rw [if_neg (by rw [e0]; omega)]
    unfold oneDay
    rw [if_pos (by omega), hb]
    have ha : ateF S (s8 + 1) ⟨⟨0, 19, 120000, 265000000, 0, 0, 0, 0, 1⟩, 0, [], [kB8, kA8]⟩ = ⟨⟨0, 19, 120000, 265000000, 0, 0, 0, 0, 1⟩, 0, [], [kB8, kA8]⟩ := rfl
    rw [ha]
    unfold sleepF
    show TS.mk (nightF S (s8 + 1) ⟨0, 19, 120000, 265000000, 0, 0, 0, 0, 1⟩ 0).1 (nightF S (s8 + 1) ⟨0, 19, 120000, 265000000, 0, 0, 0, 0, 1⟩ 0).2.1 [] ([kB8, kA8] ++ (nightF S (s8 + 1) ⟨0, 19, 120000, 265000000, 0, 0, 0, 0, 1⟩ 0).2.2) = _
    rw [hn, ht, h.loan]
    have e2 : brings aw8.parts aw8.basis (⟨0, 19, 120000, 265000000, 0, 0, 0, 0, 1⟩ : St).prin (⟨0, 19, 120000, 265000000, 0, 0, 0, 0, 1⟩ : St).carry (s8 + 1) = (20, 165000000) := hq
    rw [e2, mk_up (a := 3) (b := 6) (by decide) (by decide) (by decide) (sm_ _ (by decide)) (sm_ _ (by decide))]
    rfl
  rw [d1]
  have hb : boardF S (s8 + ((2 : Nat) : Int)) ⟨⟨0, 39, 120000, 165000000, 0, 0, 0, 0, 1⟩, 0, [], [kB8, kA8, kC8]⟩ = ⟨⟨0, 39, 120000, 165000000, 0, 0, 0, 0, 1⟩, 0, [], [kB8, kA8, kC8]⟩ := by
    unfold boardF
    rw [if_neg (by rw [e0]; omega)]
  unfold oneDay
  rw [if_neg (by omega), hb]
  rfl
theorem eat_one {S : Sto} {day : Int} {e : Ev} {x y : St} {ls : List Leg} (h1 : e.day = day) (hee : eventF x e = (y, some ls)) : eatF S day [e] x = (y, [], [(⟨S.loan, day, e.kind, e.seq⟩, refMade ls)]) := by
  unfold eatF
  rw [if_pos (by omega), if_pos h1, hee]
  rfl
def ev8 : Ev := ⟨1, s8 + 1, 4, 60000⟩
theorem tell8b {S : Sto} (h : S8 S) : tellF S (s8 + 1) [ev8] = ⟨⟨0, 10, 60019, 216140000, 60000, 0, 0, 60000, 1⟩, 0, [], [kB8, kA8, kP8, kD8]⟩ := by
  have ht := h.t
  have e0 : S.t.start = s8 := by rw [ht]; rfl
  have e3 : (s8 + 1 + 2 - S.t.start).toNat = 3 := by rw [e0]; decide
  have hq := br8 s8_day.2 60019 265000000
  have hn := night_no (S := S) (day := s8 + 1) (x := ⟨0, 0, 60019, 265000000, 60000, 0, 0, 60000, 1⟩) (next := 0) rfl (fun d hd => by
    have := h.dues d hd
    rw [ht]
    show ¬ d.1 + 10 ≤ s8 + 1
    have e : aw8.start = s8 := rfl
    omega)
  have d0 := day0 h [ev8] (by unfold eatF; rw [if_neg (by show ¬ s8 + 1 ≤ s8; omega)]) (th := s8 + 1) (by omega)
  unfold tellF
  rw [e3]
  show oneDay S (s8 + 1) (S.t.start + ((2 : Nat) : Int)) (oneDay S (s8 + 1) (S.t.start + ((1 : Nat) : Int)) (oneDay S (s8 + 1) (S.t.start + ((0 : Nat) : Int)) ⟨st0, 0, [ev8], []⟩)) = _
  rw [e0, show s8 + ((0 : Nat) : Int) = s8 by omega, d0, show s8 + ((1 : Nat) : Int) = s8 + 1 by omega]
  have d1 : oneDay S (s8 + 1) (s8 + 1) ⟨⟨0, 19, 120000, 265000000, 0, 0, 0, 0, 1⟩, 0, [ev8], [kB8, kA8]⟩ = ⟨⟨0, 10, 60019, 216140000, 60000, 0, 0, 60000, 1⟩, 0, [], [kB8, kA8, kP8, kD8]⟩ := by
    have hb : boardF S (s8 + 1) ⟨⟨0, 19, 120000, 265000000, 0, 0, 0, 0, 1⟩, 0, [ev8], [kB8, kA8]⟩ = ⟨⟨0, 19, 120000, 265000000, 0, 0, 0, 0, 1⟩, 0, [ev8], [kB8, kA8]⟩ := by
      unfold boardF
      rw [if_neg (by rw [e0]; omega)]
    unfold oneDay
    rw [if_pos (by omega), hb]
    have hee : eventF ⟨0, 19, 120000, 265000000, 0, 0, 0, 0, 1⟩ ev8 = (⟨0, 0, 60019, 265000000, 60000, 0, 0, 60000, 1⟩, some (ptL 0 19 59981 ++ [⟨1, 60000⟩, ⟨5, -0⟩])) := by decide
    have hea : eatF S (s8 + 1) [ev8] ⟨0, 19, 120000, 265000000, 0, 0, 0, 0, 1⟩ = (⟨0, 0, 60019, 265000000, 60000, 0, 0, 60000, 1⟩, [], [kP8]) := by
      rw [eat_one (S := S) (day := s8 + 1) rfl hee, mk_pay (sm_ _ (by decide)) (sm_ _ (by decide)) (sm_ _ (by decide)) (sm_ _ (by decide)) (sm_ _ (by decide)), h.loan]
      rfl
    have ha : ateF S (s8 + 1) ⟨⟨0, 19, 120000, 265000000, 0, 0, 0, 0, 1⟩, 0, [ev8], [kB8, kA8]⟩ = ⟨⟨0, 0, 60019, 265000000, 60000, 0, 0, 60000, 1⟩, 0, [], [kB8, kA8, kP8]⟩ := by
      unfold ateF
      rw [hea]
      rfl
    rw [ha]
    unfold sleepF
    show TS.mk (nightF S (s8 + 1) ⟨0, 0, 60019, 265000000, 60000, 0, 0, 60000, 1⟩ 0).1 (nightF S (s8 + 1) ⟨0, 0, 60019, 265000000, 60000, 0, 0, 60000, 1⟩ 0).2.1 [] ([kB8, kA8, kP8] ++ (nightF S (s8 + 1) ⟨0, 0, 60019, 265000000, 60000, 0, 0, 60000, 1⟩ 0).2.2) = _
    rw [hn, ht, h.loan]
    have e2 : brings aw8.parts aw8.basis (⟨0, 0, 60019, 265000000, 60000, 0, 0, 60000, 1⟩ : St).prin (⟨0, 0, 60019, 265000000, 60000, 0, 0, 60000, 1⟩ : St).carry (s8 + 1) = (10, 216140000) := hq
    rw [e2, mk_up (a := 3) (b := 6) (by decide) (by decide) (by decide) (sm_ _ (by decide)) (sm_ _ (by decide))]
    rfl
  rw [d1]
  have hb : boardF S (s8 + ((2 : Nat) : Int)) ⟨⟨0, 10, 60019, 216140000, 60000, 0, 0, 60000, 1⟩, 0, [], [kB8, kA8, kP8, kD8]⟩ = ⟨⟨0, 10, 60019, 216140000, 60000, 0, 0, 60000, 1⟩, 0, [], [kB8, kA8, kP8, kD8]⟩ := by
    unfold boardF
    rw [if_neg (by rw [e0]; omega)]
  unfold oneDay
  rw [if_neg (by omega), hb]
  rfl
end Go.Proofs.YtjlfjjgjghdokaaGreatDoor
set_option linter.unusedVariables false
namespace Go.Proofs.YtjlfjjgjghdokaaGreatDoor
open Go Go.Proofs Go.Wk Go.Pl
def aw8L : List UInt8 := [108, 101, 118, 101, 108, 32, 49, 50, 48, 48, 46, 48, 48, 32, 54, 48, 48, 48, 48, 32, 97, 99, 116, 117, 97, 108, 32, 49, 50, 32, 50, 48, 50, 52, 45, 48, 49, 45, 51, 49, 32, 49, 53, 46, 48, 48, 32, 49, 48]
theorem aw8Txt : TmT aw8 (strOf aw8L) := by
  refine ⟨2024, 1, 31, awD, rfl, ?_⟩
  congr 1
  have e1 : bsL (lvName aw8.kind) = [108, 101, 118, 101, 108] := by decide
  have e2 : coinL aw8.prin = [49, 50, 48, 48, 46, 48, 48] := by simp [aw8, coinL, Lib.decDigits]
  have e3 : Lib.itoa aw8.parts = [54, 48, 48, 48, 48] := by simp [aw8, Lib.itoa, Lib.decDigits]
  have e4 : bsL (spName aw8.basis) = [97, 99, 116, 117, 97, 108] := by decide
  have e5 : Lib.itoa aw8.months = [49, 50] := by simp [aw8, Lib.itoa, Lib.decDigits]
  have e6 := (awDat [] [] []).1
  have e7 : coinL aw8.fee = [49, 53, 46, 48, 48] := by simp [aw8, coinL, Lib.decDigits]
  have e8 : Lib.itoa aw8.grace = [49, 48] := by simp [aw8, Lib.itoa, Lib.decDigits]
  unfold tmWords
  rw [e1, e2, e3, e4, e5, e6, e7, e8]
  decide
theorem aw8Read (w : World) (M I : BS) (hM : ∀ b, ¬ M b) (H : Hp ⟨w, M, I⟩ [] [LibF] w) :
    Ctr Tryz.prog 39 [.string (strOf aw8L)] w M I (fun _ : Unit => .tuple #[tmV aw8, .nilIface]) (fun _ => True) (fun _ => []) (fun _ => []) :=
  (tmRead aw8L (by decide) w M I hM H).imp fun a w' hφ hh => by
    rcases hφ with ⟨h1, h2, h3, h4⟩ | ⟨_, _, h3⟩
    · have e : a.1 = aw8 := TmT.inj h2 h3.parts.1 aw8Ok aw8In.parts.1 h4 aw8Txt
      exact ⟨(), by unfold teV; rw [h1, e]; rfl, trivial, hh⟩
    · exact absurd aw8Txt (h3 aw8 aw8Ok aw8In)
theorem told8a {S : Sto} (h : S8 S) {x : St} {E : List (Key × List Leg)} (ht : told S (s8 + 1) [] x E) : x = ⟨0, 39, 120000, 165000000, 0, 0, 0, 0, 1⟩ ∧ E = [kB8, kA8, kC8] := by
  obtain ⟨l, h1, _, h3, h4⟩ := ht
  have e : l = [] := h1.eq_nil
  have em : mn (s8 + 1) 3640000 = s8 + 1 := by decide
  rw [em, e, tell8a h] at h3 h4
  exact ⟨h3, h4⟩
theorem told8b {S : Sto} (h : S8 S) {x : St} {E : List (Key × List Leg)} (ht : told S (s8 + 1) [⟨ev8, false⟩] x E) : x = ⟨0, 10, 60019, 216140000, 60000, 0, 0, 60000, 1⟩ ∧ E = [kB8, kA8, kP8, kD8] := by
  obtain ⟨l, h1, _, h3, h4⟩ := ht
  have e : l = [ev8] := List.perm_singleton.1 h1
  have em : mn (s8 + 1) 3640000 = s8 + 1 := by decide
  rw [em, e, tell8b h] at h3 h4
  exact ⟨h3, h4⟩
theorem eok8a : EOk 1 [kB8, kA8, kC8] := by
  refine ⟨⟨by decide, by decide⟩, by decide +kernel, ?_, ?_⟩
  · intro e he
    simp only [List.mem_cons, List.not_mem_nil, or_false] at he
    rcases he with rfl | rfl | rfl <;> exact ⟨⟨by decide, by decide⟩, ⟨by decide, by decide⟩, ⟨by decide, by decide⟩, ⟨by decide, by decide⟩⟩
  · intro e he g hg
    simp only [List.mem_cons, List.not_mem_nil, or_false] at he
    rcases he with rfl | rfl | rfl
    all_goals
      simp only [kB8, kA8, kC8, List.mem_cons, List.not_mem_nil, or_false] at hg
      rcases hg with rfl | rfl <;> exact sm_ _ (by decide)
theorem eok8b : EOk 1 [kB8, kA8, kP8, kD8] := by
  refine ⟨⟨by decide, by decide⟩, by decide +kernel, ?_, ?_⟩
  · intro e he
    simp only [List.mem_cons, List.not_mem_nil, or_false] at he
    rcases he with rfl | rfl | rfl | rfl <;> exact ⟨⟨by decide, by decide⟩, ⟨by decide, by decide⟩, ⟨by decide, by decide⟩, ⟨by decide, by decide⟩⟩
  · intro e he g hg
    simp only [List.mem_cons, List.not_mem_nil, or_false] at he
    rcases he with rfl | rfl | rfl | rfl
    · simp only [kB8, List.mem_cons, List.not_mem_nil, or_false] at hg
      rcases hg with rfl | rfl <;> exact sm_ _ (by decide)
    · simp only [kA8, List.mem_cons, List.not_mem_nil, or_false] at hg
      rcases hg with rfl | rfl <;> exact sm_ _ (by decide)
    · simp only [kP8, List.mem_cons, List.not_mem_nil, or_false] at hg
      rcases hg with rfl | rfl | rfl | rfl | rfl <;> exact sm_ _ (by decide)
    · simp only [kD8, List.mem_cons, List.not_mem_nil, or_false] at hg
      rcases hg with rfl | rfl <;> exact sm_ _ (by decide)
theorem lnNil {B : Base} {S : List Asn} {F : List Fact} {w : World} (H : Hp B S F w) : Hp B S (LnF [] :: F) w := H.facts fun I ha f hf => by
  rcases List.mem_cons.1 hf with rfl | hf
  · intro x hx; cases hx
  · exact ha f hf
theorem live_nil (loan : Int) : liveOf loan ⟨[], [], []⟩ = [] := rfl
theorem sync8 {d1 d2 : Led} {X : Int} (h1 : SyncR ⟨[], [], []⟩ 1 [kB8, kA8, kC8] 0 d1) (h2 : SyncR d1 1 [kB8, kA8, kP8, kD8] X d2) : d1.lns.length = 3 ∧ d2.lns.length = 6 := by
  have e1 := h1.len
  rw [live_nil] at e1
  have e1 : d1.lns.length = 3 := e1
  have e2 := h2.len
  have q1 : (sans (liveOf 1 d1) [kB8, kA8, kP8, kD8]).length = 1 := by
    rw [sans_len h1.live (List.Perm.refl _)]
    decide
  have q2 : (sans [kB8, kA8, kP8, kD8] (liveOf 1 d1)).length = 2 := by
    rw [sans_len (List.Perm.refl _) h1.live]
    decide
  rw [q1, q2, e1] at e2
  exact ⟨e1, e2⟩
/-- An event that may be taken. -/
theorem takeGood (p : Nat) (o : Lo) (ok : LoOk o) (h18 : o.ps.length ≤ 18) (e : Ev) (hday : -2147483648 ≤ e.day ∧ e.day ≤ 2147483647) (today : Int) (ht : -2147483648 ≤ today ∧ today ≤ 2147483647) (hn : takeE o e today = none) (w : World) (M I : BS) (H : Hp ⟨w, M, I⟩ (loA p o) (loF o) w) :
    Ctr Tryz.prog 30 [.pointer (some ⟨p, 0, none⟩), evV e, .int .i32 today] w M I (fun _ : Lo => .nilIface) (fun r => r.S = o.S ∧ r.sb = o.sb ∧ r.dv = o.dv ∧ r.thr = o.thr ∧ r.ps = o.ps ++ [⟨e, false⟩] ∧ LoOk r ∧ told o.S o.thr (o.ps ++ [⟨e, false⟩]) r.x (r.h.es.map kl)) (fun r => loA p r) (fun r => loF r) := by
  refine (loanTake p o ok h18 e hday today ht w M I H).imp fun a w' hφ h => ?_
  unfold tkOk at hφ
  rw [hn] at hφ
  obtain ⟨h1, h2⟩ := hφ
  refine ⟨a.o, by rw [h1], h2, ?_⟩
  rw [h1] at h
  exact Hp.keep h
theorem aw8_one : IntKind.i32.wrap (aw8.start + 1) = s8 + 1 ∧ IntKind.i32.wrap (aw8.start + 2) = s8 + 2 ∧ aw8.start = s8 ∧ 0 ≤ s8 ∧ s8 ≤ 3600000 := by decide
theorem s8_of {o : Lo} (h : NewLo 1 aw8 [] o) : S8 o.S := ⟨h.loan, h.tm, fun d hd => dues_gt h.dues d hd⟩
theorem LoOk.run {o : Lo} (ok : LoOk o) {day : Int} {x : St} {h : Hd} (h1 : o.S.t.start - 1 ≤ day) (h2 : day ≤ o.S.t.start + 10000) : LoOk { o with thr := day, x := x, h := h } := ⟨ok.sto, ok.pn, ok.ev, ok.few, ⟨h1, h2⟩, ok.loan⟩
set_option maxHeartbeats 4000000 in
set_option maxRecDepth 20000 in
theorem awake18 (w : World) (M I : BS) (hM : ∀ b, ¬ M b) (H : Hp ⟨w, M, I⟩ [] [LibF] w) :
    Ctr Tryz.prog 24 [] w M I (fun _ : Unit => .bool true) (fun _ => True) (fun _ => []) (fun _ => []) := by
  have e8 := aw8_one
  have e81 := e8.1
  have e82 := e8.2.1
  have e83 := e8.2.2.1
  have e84 := e8.2.2.2
  refine Exe.of_ev tok Tryz.call24 Tryz.func24 rfl rfl rfl ?_
  refine call_rule H (fun M I h0 h => aw8Read _ M I (h0 rfl) h) fun _ w1 _ H1 => ?_
  refine alloc_as tok H1 (tmC ⟨0, 0, 0, 0, 0, 0, 0, 0⟩) rfl rfl rfl fun b w2 H2 => ?_
  refine store_as tok H2 (tmC aw8) rfl rfl rfl rfl rfl fun w3 H3 => ?_
  refine load_rule tok H3 (v := tmV aw8) rfl ?_
  have H4 : Hp ⟨w, M, I⟩ [blk b (tmC aw8) 28] [Sl dayR (.slice none 0 0) [], LibF] w3 := Hp.keep (Hp.slNil dayR H3)
  refine call_rule H4 (fun M I h0 h => loanNew 1 ⟨by decide, by decide⟩ aw8 aw8In none 0 0 [] (tmB_iff.2 aw8Ok) (by decide) _ M I (h0 rfl) h) fun a w4 ha H5 => ?_
  refine call_rule H5 (fun M I _ h => newX _ M I h) fun l w5 _ H6 => ?_
  have hs8 := s8_of ha
  have hst : a.2.S.t.start = s8 := by rw [ha.tm]; exact e83
  have hthr : a.2.thr = s8 - 1 := by rw [ha.thr, e83]
  have hps : a.2.ps = [] := ha.ps
  refine load_rule tok H6 (v := .int .i32 aw8.start) rfl ?_
  have H6 : Hp ⟨w, M, I⟩ [blk a.1 (loC a.2) 141, row 105 5 (.slice a.2.pv.A a.2.pv.n a.2.pv.c) a.2.pv.n (pasC a.2.ps), blk a.2.sb (stoC a.2.S a.2.dv) 120, row 71 5 (.slice a.2.h.A a.2.h.es.length a.2.h.c) a.2.h.es.length (ensC a.2.h.es), ledO l ⟨[], [], []⟩, blk b (tmC aw8) 28] [Sl dueR (.slice a.2.dv.A a.2.dv.n a.2.dv.c) a.2.S.dues] w5 := Hp.keep H6
  refine call_rule H6 (fun M I _ h => loanRun a.1 a.2 ha.ok aw8.start (by rw [hthr, e83]; omega) (by rw [hst, e83]; omega) (by rw [e83]; omega) _ M I h) fun r1 w6 hr1 H7 => ?_
  refine Exists.elim (show ∃ o1 : Lo, o1 = { a.2 with thr := aw8.start, x := r1.1, h := r1.2 } from ⟨_, rfl⟩) fun o1 eo1 => ?_
  have ok1 : LoOk o1 := by rw [eo1]; exact ha.ok.run (by rw [hst, e83]; omega) (by rw [hst, e83]; omega)
  have es1 : o1.S = a.2.S := by rw [eo1]
  have et1 : o1.thr = aw8.start := by rw [eo1]
  have ep1 : o1.ps = [] := by rw [eo1]; exact hps
  have H7 : Hp ⟨w, M, I⟩ [blk a.1 (loC o1) 141, row 105 5 (.slice o1.pv.A o1.pv.n o1.pv.c) o1.pv.n (pasC o1.ps), blk o1.sb (stoC o1.S o1.dv) 120, row 71 5 (.slice o1.h.A o1.h.es.length o1.h.c) o1.h.es.length (ensC o1.h.es), ledO l ⟨[], [], []⟩, blk b (tmC aw8) 28] [Sl dueR (.slice o1.dv.A o1.dv.n o1.dv.c) o1.S.dues] w6 := by
    rw [eo1]
    exact Hp.keep H7
  have hst1 : o1.S.t.start = s8 := by rw [es1]; exact hst
  refine load_rule tok H7 (v := .int .i32 aw8.start) rfl ?_
  refine call_rule H7 (fun M I _ h => loanRun a.1 o1 ok1 (IntKind.i32.wrap (aw8.start + 1)) (by rw [et1, e81, e83]) (by rw [hst1, e81]; omega) (by rw [e81]; omega) _ M I h) fun r2 w7 hr2 H8 => ?_
  refine Exists.elim (show ∃ o2 : Lo, o2 = { o1 with thr := IntKind.i32.wrap (aw8.start + 1), x := r2.1, h := r2.2 } from ⟨_, rfl⟩) fun o2 eo2 => ?_
  have ok2 : LoOk o2 := by rw [eo2]; exact ok1.run (by rw [hst1, e81]; omega) (by rw [hst1, e81]; omega)
  have es2 : o2.S = a.2.S := by rw [eo2]; exact es1
  have et2 : o2.thr = s8 + 1 := by rw [eo2]; exact e81
  have ep2 : o2.ps = [] := by rw [eo2]; exact ep1
  have H8 : Hp ⟨w, M, I⟩ [blk a.1 (loC o2) 141, row 105 5 (.slice o2.pv.A o2.pv.n o2.pv.c) o2.pv.n (pasC o2.ps), blk o2.sb (stoC o2.S o2.dv) 120, row 71 5 (.slice o2.h.A o2.h.es.length o2.h.c) o2.h.es.length (ensC o2.h.es), ledO l ⟨[], [], []⟩, blk b (tmC aw8) 28] [Sl dueR (.slice o2.dv.A o2.dv.n o2.dv.c) o2.S.dues, EnF o2.h.es, LnF (Led.mk [] [] []).lns] w7 := by
    rw [eo2]
    exact Hp.keep (lnNil H8)
  have hq2 : o2.x = ⟨0, 39, 120000, 165000000, 0, 0, 0, 0, 1⟩ ∧ o2.h.es.map kl = [kB8, kA8, kC8] := by
    have ht : told o2.S (s8 + 1) [] o2.x (o2.h.es.map kl) := by
      have h0 := hr2
      rw [e81, ep1] at h0
      rw [eo2]
      exact h0
    rw [es2] at ht
    exact told8a hs8 ht
  have hloan2 : o2.S.loan = 1 := by rw [es2]; exact ha.loan
  have hl2 : o2.h.es.length = 3 := by
    have := congrArg List.length hq2.2
    rwa [List.length_map] at this
  refine call_rule H8 (fun M I _ h => sync a.1 o2 l ⟨[], [], []⟩ inv_nil (by decide) 0 lb_nil (by decide) ok2.loan (by rw [hloan2, hq2.2]; exact eok8a) (by omega) (by rw [live_nil]; decide) _ M I h) fun d1 w8 hd1 H9 => ?_
  have hd1 : SyncR ⟨[], [], []⟩ 1 [kB8, kA8, kC8] 0 d1 := by
    have h0 := hd1
    rw [hloan2, hq2.2] at h0
    exact h0
  have hlen1 : d1.lns.length = 3 := by
    have e1 := hd1.len
    rw [live_nil] at e1
    exact e1
  refine call_rule H9 (fun M I _ h => lenX l d1 _ M I h) fun _ w9 _ H10 => ?_
  have g1 : (!((d1.lns.length : Int) == 3)) = false := by rw [hlen1]; rfl
  refine br (fun q => absurd (g1.symm.trans q) (by decide)) (fun _ => ?_)
  refine load_rule tok H10 (v := .int .i32 aw8.start) rfl ?_
  refine load_rule tok H10 (v := .int .i32 aw8.start) rfl ?_
  have ee : (⟨1, IntKind.i32.wrap (aw8.start + 1), 4, 60000⟩ : Ev) = ev8 := by rw [e81]; rfl
  have hn : takeE o2 ⟨1, IntKind.i32.wrap (aw8.start + 1), 4, 60000⟩ (IntKind.i32.wrap (aw8.start + 2)) = none := by
    rw [ee, e82]
    have q1 : ¬ evRB ev8 = false := by decide
    have q2 : ¬ 0 ≤ findI ev8.seq o2.ps 0 := by rw [ep2]; decide
    have q3 : ¬ opnB o2 ev8.day (s8 + 2) = false := by
      have h1 : opnB o2 (s8 + 1) (s8 + 2) = true := by
        unfold opnB
        rw [es2, hst, et2, decide_eq_true (by omega), decide_eq_true (by omega), decide_eq_true (by omega), decide_eq_true (by omega)]
        rfl
      have h2 : opnB o2 ev8.day (s8 + 2) = true := h1
      rw [h2]
      decide
    have q4 : ¬ o2.x.status = 2 := by rw [hq2.1]; decide
    have q5 : ¬ (o2.x.status = 3 ∧ ev8.kind ≠ 4) := by rw [hq2.1]; decide
    unfold takeE
    rw [if_neg q1, if_neg q2, if_neg q3, if_neg q4, if_neg q5]
  have H10 : Hp ⟨w, M, I⟩ [blk a.1 (loC o2) 141, row 105 5 (.slice o2.pv.A o2.pv.n o2.pv.c) o2.pv.n (pasC o2.ps), blk o2.sb (stoC o2.S o2.dv) 120, row 71 5 (.slice o2.h.A o2.h.es.length o2.h.c) o2.h.es.length (ensC o2.h.es), ledO l d1, blk b (tmC aw8) 28] [Sl dueR (.slice o2.dv.A o2.dv.n o2.dv.c) o2.S.dues, EnF o2.h.es, LnF d1.lns] w9 := Hp.keep H10
  refine call_rule H10 (fun M I _ h => takeGood a.1 o2 ok2 (by rw [ep2]; decide) ⟨1, IntKind.i32.wrap (aw8.start + 1), 4, 60000⟩ (by show -2147483648 ≤ IntKind.i32.wrap (aw8.start + 1) ∧ IntKind.i32.wrap (aw8.start + 1) ≤ 2147483647; rw [e81]; omega) (IntKind.i32.wrap (aw8.start + 2)) (by rw [e82]; omega) hn _ M I h) fun r w10 hr H11 => ?_
  have hrs : r.S = a.2.S := by rw [hr.1]; exact es2
  have okr : LoOk r := hr.2.2.2.2.2.1
  have hloan3 : r.S.loan = 1 := by rw [hrs]; exact ha.loan
  have hq3 : r.x = ⟨0, 10, 60019, 216140000, 60000, 0, 0, 60000, 1⟩ ∧ r.h.es.map kl = [kB8, kA8, kP8, kD8] := by
    have ht := hr.2.2.2.2.2.2
    rw [ee, ep2, et2, es2] at ht
    exact told8b hs8 ht
  have hl3 : r.h.es.length = 4 := by
    have := congrArg List.length hq3.2
    rwa [List.length_map] at this
  have hlv1 : (liveOf r.S.loan d1).length ≤ 12 := by
    rw [hloan3, hd1.live.length_eq]
    decide
  have hX : (0 : Int) + 100000000000000000 * (((liveOf 1 ⟨[], [], []⟩).length + [kB8, kA8, kC8].length : Nat) : Int) ≤ 4000000000000000000 := by rw [live_nil]; decide
  refine call_rule H11 (fun M I _ h => sync a.1 r l d1 hd1.inv (by omega) _ hd1.lb hX okr.loan (by rw [hloan3, hq3.2]; exact eok8b) (by omega) hlv1 _ M I h) fun d2 w11 hd2 H12 => ?_
  have hlen2 : d2.lns.length = 6 := by
    have h0 := hd2
    rw [hloan3, hq3.2] at h0
    exact (sync8 hd1 h0).2
  refine call_rule H12 (fun M I _ h => lenX l d2 _ M I h) fun _ w12 _ H13 => ?_
  have g2 : ((d2.lns.length : Int) == 6) = true := by rw [hlen2]; rfl
  refine br (fun _ => ?_) (fun q => absurd (g2.symm.trans q) (by decide))
  refine call_rule H13 (fun M I _ h => loanState a.1 r _ M I h) fun _ w13 _ H14 => ?_
  refine Exists.intro () (And.intro (congrArg Value.bool ?_) (And.intro trivial (Hp.keep H14)))
  show (r.x.cash == 60000) = true
  rw [hq3.1]
  rfl
end Go.Proofs.YtjlfjjgjghdokaaGreatDoor
set_option linter.unusedVariables false
namespace Go.Proofs.YtjlfjjgjghdokaaGreatDoor
open Go Go.Proofs Go.Wk
theorem ownTm18 (t : Tm) (hin : TmIn t) : CB 26 [tmV t] (rtV t) := by
  intro w M I H
  have es : IntKind.i64.wrap t.start = t.start := by
    obtain ⟨a, b⟩ := hin.start
    simp only [kLo, kHi] at a b
    exact i64w (by omega) (by omega)
  refine Exe.of_ev tok Tryz.call26 Tryz.func26 rfl rfl rfl ?_
  refine box_as H (tmC t) rfl fun r w1 H1 => ?_
  refine alloc_as tok H1 (rtC ⟨0, 0, 0, 0, 0, 0, 0, 0⟩) rfl rfl rfl fun o w2 H2 => ?_
  refine load_rule tok H2 (v := .int .u8 t.kind) rfl ?_
  refine load_rule tok H2 (v := .int .i64 t.prin) rfl ?_
  refine load_rule tok H2 (v := .int .u32 t.parts) rfl ?_
  refine load_rule tok H2 (v := .int .u8 t.basis) rfl ?_
  refine load_rule tok H2 (v := .int .i64 t.months) rfl ?_
  refine load_rule tok H2 (v := .int .i32 t.start) rfl ?_
  refine load_rule tok H2 (v := .int .i64 t.fee) rfl ?_
  refine load_rule tok H2 (v := .int .i64 t.grace) rfl ?_
  refine store_as tok H2 (rtC ⟨t.kind, t.prin, t.parts, t.basis, t.months, IntKind.i64.wrap t.start, t.fee, t.grace⟩) rfl rfl rfl rfl rfl fun w3 H3 => ?_
  rw [es] at H3
  refine Exists.intro ⟨o, 0, none⟩ (Exists.intro (rtV t) (And.intro rfl (And.intro (Hp.ld (T := tb) tok H3 rfl) ?_)))
  exact Exists.intro () (And.intro rfl (And.intro trivial (Hp.keep H3)))
/-- With no more than 24 months. -/
def smT (t : Tm) : Tm := { t with months := if 24 < t.months then 24 else t.months }
theorem smT_in {t : Tm} (h : TmIn t) : TmIn (smT t) := by
  have hm := h.months
  refine ⟨h.kind, h.prin, h.parts, h.basis, ?_, h.start, h.fee, h.grace⟩
  show inK .i64 (if 24 < t.months then 24 else t.months)
  split
  · exact ⟨by decide, by decide⟩
  · exact hm
theorem small_ (t : Tm) : CB 25 [tmV t] (tmV (smT t)) := by
  intro w M I H
  refine Exe.of_ev tok Tryz.call25 Tryz.func25 rfl rfl rfl ?_
  refine box_as H (tmC t) rfl fun r w1 H1 => ?_
  refine alloc_as tok H1 (tmC ⟨0, 0, 0, 0, 0, 0, 0, 0⟩) rfl rfl rfl fun o w2 H2 => ?_
  refine load_rule tok H2 (v := .int .i64 t.months) rfl ?_
  refine store_as tok H2 (tmC (smT t)) rfl rfl rfl rfl rfl fun w3 H3 => ?_
  refine load_rule tok H3 (v := tmV (smT t)) rfl ?_
  refine store_as tok H3 (tmC (smT t)) rfl rfl rfl rfl rfl fun w4 H4 => ?_
  refine Exists.intro ⟨o, 0, none⟩ (Exists.intro (tmV (smT t)) (And.intro rfl (And.intro (Hp.ld (T := tb) tok H4 rfl) ?_)))
  exact Exists.intro () (And.intro rfl (And.intro trivial (Hp.keep H4)))
/-- Nothing has happened: the loan is active. -/
theorem told_active {S : Sto} (hS : StoOk S) {k : Nat} (hk : k ≤ 1000) {x : St} {E : List (Key × List Leg)} (h : told S (S.t.start - 1 + (k : Int)) [] x E) : x.status = 1 := by
  have hst := hS.ok.start
  obtain ⟨l, h1, _, h3, _⟩ := h
  have e : l = [] := h1.eq_nil
  have em : mn (S.t.start - 1 + (k : Int)) 3640000 = S.t.start - 1 + (k : Int) := by unfold mn; rw [if_neg (by omega)]
  rw [em, e] at h3
  cases k with
  | zero =>
    have e2 : S.t.start - 1 + ((0 : Nat) : Int) = S.t.start - 1 := by omega
    rw [e2, tell_board hS] at h3
    rw [h3]
  | succ k =>
    have e2 : S.t.start - 1 + ((k + 1 : Nat) : Int) = S.t.start + (k : Int) := by omega
    rw [e2] at h3
    rw [h3]
    exact (quiet_tell hS k).status
end Go.Proofs.YtjlfjjgjghdokaaGreatDoor
set_option linter.unusedVariables false
namespace Go.Proofs.YtjlfjjgjghdokaaGreatDoor
open Go Go.Proofs Go.Wk
theorem takeBad (p : Nat) (o : Lo) (ok : LoOk o) (h18 : o.ps.length ≤ 18) (e : Ev) (hday : -2147483648 ≤ e.day ∧ e.day ≤ 2147483647) (today : Int) (ht : -2147483648 ≤ today ∧ today ≤ 2147483647) (c : Int) (hn : takeE o e today = some c) (w : World) (M I : BS) (H : Hp ⟨w, M, I⟩ (loA p o) (loF o) w) :
    Ctr Tryz.prog 30 [.pointer (some ⟨p, 0, none⟩), evV e, .int .i32 today] w M I (fun f : Nat => .iface 116 (.pointer (some ⟨f, 0, none⟩))) (fun _ => True) (fun f => blk f [.int .u64 o.S.loan, .iface 100 (.int .i64 c)] 118 :: loA p o) (fun _ => loF o) := by
  refine (loanTake p o ok h18 e hday today ht w M I H).imp fun a w' hφ h => ?_
  unfold tkOk at hφ
  rw [hn] at hφ
  obtain ⟨⟨f, ef⟩, eo⟩ := hφ
  refine ⟨f, ?_, trivial, ?_⟩
  · rw [ef]
  · rw [ef, eo] at h
    exact h
theorem codeFault (p : Nat) (a c : Int) (w : World) (M I : BS) (H : Hp ⟨w, M, I⟩ [blk p [.int .u64 a, .iface 100 (.int .i64 c)] 118] [Glob 0 errTy] w) :
    Ctr Tryz.prog 36 [.iface 116 (.pointer (some ⟨p, 0, none⟩))] w M I (fun _ : Unit => .int .i64 c) (fun _ => True) (fun _ => [blk p [.int .u64 a, .iface 100 (.int .i64 c)] 118]) (fun _ => []) := codeF (.fault p a c) w M I H
end Go.Proofs.YtjlfjjgjghdokaaGreatDoor
set_option linter.unusedVariables false
namespace Go.Wk
theorem row_stA {P : Program} {T : Tab} {K : Value → World → Prop} {w : World} {B : Base} {S S' : List Asn} {F : List Fact} (hT : T.Ok P) (H : Hp B S F w) {A : Option Addr} {b o e sz n c : Nat} {cs : List Value} {t : TypeId} {d : TD} {x : Value} (hA : A = some ⟨b, 0, none⟩) [hp : TakeR S (.slice A n c) e sz n cs S'] (ht : T t = some d) (hs : Nat.beq x.cells.toList.length d.info.size = true)
    (hl : o + x.cells.toList.length ≤ cs.length) (h1 : allOne x.cells.toList = true)
    (k : ∀ w', Hp B (row e sz (.slice A n c) n (setL cs o x.cells.toList) :: S') F w' → K undef w') : StoreK P K w t (.pointer (some ⟨b, o, none⟩)) x := by
  subst hA
  haveI : TakeRB S b e sz n c cs S' := ⟨hp.perm⟩
  exact row_st hT H ht hs hl h1 k
end Go.Wk
namespace Go.Proofs.YtjlfjjgjghdokaaGreatDoor
open Go Go.Proofs Go.Wk
theorem pas_cell {ps : List Pa} {j : Nat} {x : Pa} (h : ps[j]? = some x) {i : Nat} (hi : i < 5) : (pasC ps)[0 + j * 5 + i]? = (paC x)[i]? := by
  have e := flatL_at (f := paC) (sz := 5) paC_len h
  rw [← e, List.getElem?_take, if_pos hi, List.getElem?_drop, Nat.zero_add]
theorem pas_day {ps : List Pa} {j : Nat} {x : Pa} (h : ps[j]? = some x) : ldV (tb 26) (pasC ps) (0 + j * 5 + 1) = some (.int .i32 x.ev.day) := (pas_cell h (i := 1) (by decide)).trans rfl
theorem pas_kind {ps : List Pa} {j : Nat} {x : Pa} (h : ps[j]? = some x) : ldV (tb 5) (pasC ps) (0 + j * 5 + 2) = some (.int .u8 x.ev.kind) := (pas_cell h (i := 2) (by decide)).trans rfl
theorem pas_gone {ps : List Pa} {j : Nat} {x : Pa} (h : ps[j]? = some x) : ldV (tb 4) (pasC ps) (0 + j * 5 + 4) = some (.bool x.gone) := (pas_cell h (i := 4) (by decide)).trans rfl
theorem pas_set : ∀ {ps : List Pa} {j : Nat} {x : Pa}, ps[j]? = some x → setL (pasC ps) (0 + j * 5 + 4) [.bool true] = pasC (ps.set j ⟨x.ev, true⟩)
  | y :: r, 0, x, h => by
    obtain rfl : y = x := Option.some.inj h
    rfl
  | y :: r, j + 1, x, h => by
    have ih := pas_set (ps := r) (j := j) (x := x) h
    have e : 0 + (j + 1) * 5 + 4 = 0 + j * 5 + 4 + 1 + 1 + 1 + 1 + 1 := by omega
    rw [e]
    show setL (paC y ++ pasC r) _ _ = paC y ++ pasC (r.set j ⟨x.ev, true⟩)
    rw [← ih]
    rfl
theorem pasC_one : ∀ (xs : List Pa), ∀ u ∈ pasC xs, u.oneCell' = true
  | [], u, h => by cases h
  | x :: r, u, h => by
    have h : u ∈ paC x ++ pasC r := h
    rcases List.mem_append.1 h with h | h
    · simp only [paC, List.mem_cons, List.not_mem_nil, or_false] at h
      rcases h with rfl | rfl | rfl | rfl | rfl <;> rfl
    · exact pasC_one r u h
theorem clonePa (A : Option Addr) (n c : Nat) (ps : List Pa) (hn : n = ps.length) (h1 : n ≤ 100000) (w : World) (M I : BS) (H : Hp ⟨w, M, I⟩ [row 105 5 (.slice A n c) n (pasC ps)] [] w) :
    Ctr Tryz.prog 75 [.slice A n c] w M I (fun a : SV => .slice a.A a.n a.c) (fun a => a.n = n) (fun a => [row 105 5 (.slice a.A a.n a.c) a.n (pasC ps), row 105 5 (.slice A n c) n (pasC ps)]) (fun _ => []) := by
  obtain ⟨fa, ha⟩ := Hp.own (A := row 105 5 (.slice A n c) n (pasC ps)) H
  rcases ha.1.2 with ⟨h1, h2⟩ | ⟨g, cap, cur, h1, _⟩
  · injection h1 with e1 e2 e3
    have e2 : n = 0 := e2
    subst e1 e2 e3
    have he : ps = [] := List.eq_nil_of_length_eq_zero hn.symm
    subst he
    refine Exe.of_ev tok Tryz.call75 Tryz.func75 rfl rfl rfl ?_
    have H2 : Hp ⟨w, M, I⟩ [row 105 5 (.slice none 0 0) 0 (pasC []), row 105 5 (.slice none 0 0) 0 (pasC [])] [] w := Hp.nil H 105 5
    exact Exists.intro ⟨none, 0, 0⟩ (And.intro rfl (And.intro rfl H2))
  · injection h1 with e1 e2 e3
    subst e1 e3
    refine Exe.of_ev tok Tryz.call75 Tryz.func75 rfl rfl rfl ?_
    refine slice_as tok H [] rfl rfl rfl rfl rfl rfl fun g2 w1 H1 => ?_
    have H2 : Hp ⟨w, M, I⟩ [row 105 5 (.slice (some ⟨g2, 0, none⟩) 0 0) 0 [], row 105 5 (.slice (some ⟨g, 0, none⟩) n c) n (pasC ps)] [] w1 := H1.toRow 5 0 rfl (by decide)
    refine append_row (v := .slice (some ⟨g2, 0, none⟩) 0 0) (A := some ⟨g, 0, none⟩) (m := n) (c := c) tok H2 rfl rfl rfl rfl rfl rfl (pasC_one ps) (by show (0 + n) * 32 ≤ _; omega) (by omega) fun A2 c2 w4 H4 => ?_
    exact Exists.intro ⟨A2, 0 + n, c2⟩ (And.intro rfl (And.intro (Nat.zero_add n) H4))
/-- Its events. -/
theorem loanEvents (p : Nat) (o : Lo) (ok : LoOk o) (w : World) (M I : BS) (H : Hp ⟨w, M, I⟩ [blk p (loC o) 141, row 105 5 (.slice o.pv.A o.pv.n o.pv.c) o.pv.n (pasC o.ps)] [] w) :
    Ctr Tryz.prog 38 [.pointer (some ⟨p, 0, none⟩)] w M I (fun a : SV => .slice a.A a.n a.c) (fun a => a.n = o.pv.n) (fun a => [row 105 5 (.slice a.A a.n a.c) a.n (pasC o.ps), blk p (loC o) 141, row 105 5 (.slice o.pv.A o.pv.n o.pv.c) o.pv.n (pasC o.ps)]) (fun _ => []) := by
  have hpn := ok.pn
  have hfew := ok.few
  refine Exe.of_ev tok Tryz.call38 Tryz.func38 rfl rfl rfl ?_
  refine load_rule tok H (v := .slice o.pv.A o.pv.n o.pv.c) rfl ?_
  refine call_rule H (fun M I _ h => clonePa o.pv.A o.pv.n o.pv.c o.ps hpn (by omega) _ M I h) fun a w1 ha H1 => ?_
  exact Exists.intro a (And.intro rfl (And.intro ha (Hp.keep H1)))
/-- What a reversal answers. -/
def rvE (o : Lo) (j : Nat) (x : Pa) (today : Int) : Option Int :=
  if x.gone then some 14
  else if x.ev.kind ≠ 4 then some 1
  else if opnB o x.ev.day today = false then some 11
  else none
def rvOk (o : Lo) (j : Nat) (x : Pa) (today : Int) (r : TkR) : Prop := match rvE o j x today with
  | some c => (∃ f, r.e = .fault f o.S.loan c) ∧ r.o = o
  | none => r.e = .none ∧ r.o.S = o.S ∧ r.o.sb = o.sb ∧ r.o.dv = o.dv ∧ r.o.thr = o.thr ∧ r.o.ps = o.ps.set j ⟨x.ev, true⟩ ∧ LoOk r.o ∧ told o.S o.thr (o.ps.set j ⟨x.ev, true⟩) r.o.x (r.o.h.es.map kl)
theorem goneOk {o : Lo} (ok : LoOk o) {j : Nat} {x : Pa} (hx : o.ps[j]? = some x) (A2 : Option Addr) (n2 c2 : Nat) (hn : n2 = o.pv.n) : LoOk { o with ps := o.ps.set j ⟨x.ev, true⟩, pv := ⟨A2, n2, c2⟩ } := by
  refine ⟨ok.sto, ?_, ?_, ?_, ok.thr, ok.loan⟩
  · show n2 = (o.ps.set j ⟨x.ev, true⟩).length
    rw [List.length_set, hn, ok.pn]
  · intro q hq
    rcases List.mem_or_eq_of_mem_set hq with hq | rfl
    · exact ok.ev q hq
    · exact ok.ev x (List.mem_of_getElem? hx)
  · show (o.ps.set j ⟨x.ev, true⟩).length ≤ 19
    rw [List.length_set]
    exact ok.few
theorem loanFindAt (p : Nat) (o : Lo) (hpn : o.pv.n = o.ps.length) (q v : Int) (hv : findI q o.ps 0 = v) (w : World) (M I : BS) (H : Hp ⟨w, M, I⟩ [blk p (loC o) 141, row 105 5 (.slice o.pv.A o.pv.n o.pv.c) o.pv.n (pasC o.ps)] [] w) :
    Ctr Tryz.prog 58 [.pointer (some ⟨p, 0, none⟩), .int .u32 q] w M I (fun _ : Unit => .int .i64 v) (fun _ => True) (fun _ => [blk p (loC o) 141, row 105 5 (.slice o.pv.A o.pv.n o.pv.c) o.pv.n (pasC o.ps)]) (fun _ => []) := by
  subst hv
  exact loanFind p o hpn q w M I H
theorem revNo (p : Nat) (o : Lo) (ok : LoOk o) (q today : Int) (hq : findI q o.ps 0 = -1) (w : World) (M I : BS) (H : Hp ⟨w, M, I⟩ (loA p o) (loF o) w) :
    Ctr Tryz.prog 37 [.pointer (some ⟨p, 0, none⟩), .int .u32 q, .int .i32 today] w M I (fun f : Nat => .iface 116 (.pointer (some ⟨f, 0, none⟩))) (fun _ => True) (fun f => blk f [.int .u64 o.S.loan, .iface 100 (.int .i64 3)] 118 :: loA p o) (fun _ => loF o) := by
  refine Exe.of_ev tok Tryz.call37 Tryz.func37 rfl rfl rfl ?_
  refine call_rule H (fun M I _ h => loanFindAt p o ok.pn q (-1) hq _ M I h) fun _ w1 _ H1 => ?_
  refine call_rule H1 (fun M I _ h => loanFault p o ok.loan 3 _ M I h) fun f w3 _ H3 => ?_
  have H3 : Hp ⟨w, M, I⟩ (blk f [.int .u64 o.S.loan, .iface 100 (.int .i64 3)] 118 :: loA p o) (loF o) w3 := H3
  exact Exists.intro f (And.intro rfl (And.intro trivial (Hp.keep H3)))
set_option maxHeartbeats 2000000 in
set_option maxRecDepth 20000 in
theorem loanRev (p : Nat) (o : Lo) (ok : LoOk o) (q today : Int) (ht : -2147483648 ≤ today ∧ today ≤ 2147483647) (j : Nat) (x : Pa) (hx : o.ps[j]? = some x) (hq : findI q o.ps 0 = (j : Int)) (hd : -2147483648 ≤ x.ev.day ∧ x.ev.day ≤ 2147483647) (w : World) (M I : BS) (H : Hp ⟨w, M, I⟩ (loA p o) (loF o) w) :
    Ctr Tryz.prog 37 [.pointer (some ⟨p, 0, none⟩), .int .u32 q, .int .i32 today] w M I (fun r : TkR => errFV r.e) (rvOk o j x today) (fun r => errFA r.e :: loA p r.o) (fun r => loF r.o) := by
  have hpn := ok.pn
  have hfew := ok.few
  have hln := ok.loan
  have hj : j < o.pv.n := by rw [hpn]; exact (List.getElem?_eq_some_iff.1 hx).1
  have hj2 : (j : Int) < (o.pv.n : Int) := by omega
  refine Exe.of_ev tok Tryz.call37 Tryz.func37 rfl rfl rfl ?_
  have fail : ∀ (c : Int) (f : Nat) (w' : World), rvE o j x today = some c → Hp ⟨w, M, I⟩ (errFA (.fault f o.S.loan c) :: loA p o) (loF o) w' → ∃ r : TkR, errFV (.fault f o.S.loan c) = errFV r.e ∧ rvOk o j x today r ∧ Hp ⟨w, M, I⟩ (errFA r.e :: loA p r.o) (loF r.o) w' := fun c f w' hc h => by
    refine ⟨⟨.fault f o.S.loan c, o⟩, rfl, ?_, h⟩
    unfold rvOk
    rw [hc]
    exact ⟨⟨f, rfl⟩, rfl⟩
  refine call_rule H (fun M I _ h => loanFindAt p o hpn q (j : Int) hq _ M I h) fun _ w1 _ H1 => ?_
  refine Exists.elim (row_at (A := o.pv.A) (n := o.pv.n) (c := o.pv.c) H1 (by omega)) fun g hA => ?_
  refine load_rule tok H1 (v := .slice o.pv.A o.pv.n o.pv.c) rfl ?_
  refine idx_ownA tok hA rfl rfl (Int.natCast_nonneg j) hj2 ?_
  refine row_ldA (A := o.pv.A) (n := o.pv.n) (c := o.pv.c) tok H1 (.bool x.gone) hA (pas_gone hx) ?_
  refine br (fun q2 => ?_) (fun q2 => ?_)
  · have q2 : x.gone = true := q2
    refine call_rule H1 (fun M I _ h => loanFault p o hln 14 _ M I h) fun f w3 _ H3 => ?_
    exact fail 14 f w3 (by unfold rvE; rw [if_pos q2]) (Hp.keep H3)
  have n2 : ¬ x.gone = true := by
    have q2 : x.gone = false := q2
    rw [q2]
    decide
  refine load_rule tok H1 (v := .slice o.pv.A o.pv.n o.pv.c) rfl ?_
  refine idx_ownA tok hA rfl rfl (Int.natCast_nonneg j) hj2 ?_
  refine row_ldA (A := o.pv.A) (n := o.pv.n) (c := o.pv.c) tok H1 (.int .u8 x.ev.kind) hA (pas_kind hx) ?_
  refine br (fun q3 => ?_) (fun q3 => ?_)
  · have q3 : x.ev.kind ≠ 4 := by
      have q3 : (!(x.ev.kind == 4)) = true := q3
      simpa using q3
    refine call_rule H1 (fun M I _ h => loanFault p o hln 1 _ M I h) fun f w3 _ H3 => ?_
    exact fail 1 f w3 (by unfold rvE; rw [if_neg n2, if_pos q3]) (Hp.keep H3)
  have n3 : ¬ x.ev.kind ≠ 4 := by
    have q3 : (!(x.ev.kind == 4)) = false := q3
    simpa using q3
  refine load_rule tok H1 (v := .slice o.pv.A o.pv.n o.pv.c) rfl ?_
  refine idx_ownA tok hA rfl rfl (Int.natCast_nonneg j) hj2 ?_
  refine row_ldA (A := o.pv.A) (n := o.pv.n) (c := o.pv.c) tok H1 (.int .i32 x.ev.day) hA (pas_day hx) ?_
  refine call_rule H1 (fun M I _ h => loanOpen p o ok x.ev.day today hd ht _ M I h) fun _ w2 _ H2 => ?_
  refine br (fun q4 => ?_) (fun q4 => ?_)
  · have q4 : opnB o x.ev.day today = false := by
      have q4 : (!opnB o x.ev.day today) = true := q4
      simpa using q4
    refine call_rule H2 (fun M I _ h => loanFault p o hln 11 _ M I h) fun f w3 _ H3 => ?_
    exact fail 11 f w3 (by unfold rvE; rw [if_neg n2, if_neg n3, if_pos q4]) (Hp.keep H3)
  have n4 : ¬ opnB o x.ev.day today = false := by
    have q4 : (!opnB o x.ev.day today) = false := q4
    simpa using q4
  have hn : rvE o j x today = none := by unfold rvE; rw [if_neg n2, if_neg n3, if_neg n4]
  refine load_rule tok H2 (v := .slice o.pv.A o.pv.n o.pv.c) rfl ?_
  refine call_rule H2 (fun M I _ h => clonePa o.pv.A o.pv.n o.pv.c o.ps hpn (by omega) _ M I h) fun a w3 ha H3 => ?_
  have ha : a.n = o.pv.n := ha
  have hj3 : (j : Int) < (a.n : Int) := by omega
  refine store_as tok H3 (loC { o with pv := a }) rfl rfl rfl rfl rfl fun w4 H4 => ?_
  refine Exists.elim (row_at (A := a.A) (n := a.n) (c := a.c) H4 (by omega)) fun g2 hA2 => ?_
  refine load_rule tok H4 (v := .slice a.A a.n a.c) rfl ?_
  refine idx_ownA tok hA2 rfl rfl (Int.natCast_nonneg j) hj3 ?_
  refine row_stA (A := a.A) (n := a.n) (c := a.c) (o := 0 + j * 5 + 4) (x := .bool true) tok H4 hA2 rfl rfl (by show 0 + j * 5 + 4 + 1 ≤ (pasC o.ps).length; rw [flatL_len paC_len]; omega) rfl fun w5 H5 => ?_
  have H6 : Hp ⟨w, M, I⟩ (loA p { o with ps := o.ps.set j ⟨x.ev, true⟩, pv := ⟨a.A, a.n, a.c⟩ }) (loF o) w5 := by
    show Hp ⟨w, M, I⟩ [blk p (loC { o with pv := a }) 141, row 105 5 (.slice a.A a.n a.c) a.n (pasC (o.ps.set j ⟨x.ev, true⟩)), blk o.sb (stoC o.S o.dv) 120, row 71 5 (.slice o.h.A o.h.es.length o.h.c) o.h.es.length (ensC o.h.es)] (loF o) w5
    rw [← pas_set hx]
    have H5 : Hp ⟨w, M, I⟩ [row 105 5 (.slice a.A a.n a.c) a.n (setL (pasC o.ps) (0 + j * 5 + 4) [.bool true]), blk p (loC { o with pv := a }) 141, row 105 5 (.slice o.pv.A o.pv.n o.pv.c) o.pv.n (pasC o.ps), blk o.sb (stoC o.S o.dv) 120, row 71 5 (.slice o.h.A o.h.es.length o.h.c) o.h.es.length (ensC o.h.es)] (loF o) w5 := H5
    exact Hp.keep H5
  have ok2 := goneOk ok hx a.A a.n a.c ha
  refine call_rule H6 (fun M I _ h => ltell p { o with ps := o.ps.set j ⟨x.ev, true⟩, pv := ⟨a.A, a.n, a.c⟩ } ok2 _ M I h) fun b w7 hb H7 => ?_
  refine Exists.intro ⟨.none, { o with ps := o.ps.set j ⟨x.ev, true⟩, pv := ⟨a.A, a.n, a.c⟩, x := b.1, h := b.2 }⟩ (And.intro rfl (And.intro ?_ ?_))
  · unfold rvOk
    rw [hn]
    exact ⟨rfl, rfl, rfl, rfl, rfl, rfl, ⟨ok2.sto, ok2.pn, ok2.ev, ok2.few, ok2.thr, ok2.loan⟩, hb⟩
  · show Hp ⟨w, M, I⟩ (empA :: loA p { o with ps := o.ps.set j ⟨x.ev, true⟩, pv := ⟨a.A, a.n, a.c⟩, x := b.1, h := b.2 }) (loF { o with ps := o.ps.set j ⟨x.ev, true⟩, pv := ⟨a.A, a.n, a.c⟩, x := b.1, h := b.2 }) w7
    exact Hp.keep (Hp.addEmp H7)
end Go.Proofs.YtjlfjjgjghdokaaGreatDoor
