/- The document's example of a loan: what its story tells: the plain law. -/
import Derived.Test.YtjlfjjgjghdokaaGreatDoorLy24
set_option linter.unusedVariables false
namespace Go.Proofs.YtjlfjjgjghdokaaGreatDoor
open Go Go.Proofs Go.Wk Go.Pl
/-- What is due is due behind the day on which the loan began. -/
theorem roll_gt {hs : List Int} {s k d : Int} (h : rollR hs s k (some d)) (hk : 1 ≤ k) : s < d := by
  obtain ⟨p, ⟨y, m, dd, hD, e1, hp⟩, h2⟩ := h
  cases p with
  | none => cases h2
  | some n =>
    have h3 : nextR hs n (some d) := h2
    have h4 := h3.1
    unfold plainV at hp
    split at hp
    · cases hp
    · rename_i hlt
      have hp := Option.some.inj hp
      have y1 := hD.y1; have m1 := hD.m1; have m2 := hD.m2; have d1 := hD.d1; have d2 := hD.d2
      obtain ⟨a1, a2, a3, a4⟩ := on_ok (y := y) (m := m) (n := k) (by omega) (by omega)
      have hl := len_pos (y := onY y m k) (m := onM y m k)
      have hdd : 1 ≤ (if dd = lenM y m then lenM (onY y m k) (onM y m k) else min dd (lenM (onY y m k) (onM y m k))) := by
        split <;> omega
      have hn : beg (onY y m k) + offM (onY y m k) (onM y m k) ≤ n := by
        rw [hp]
        unfold numD
        omega
      have hs2 : s = beg y + offM y m + dd - 1 := by rw [← e1]; rfl
      have key : beg y + offM y m + lenM y m ≤ beg (onY y m k) + offM (onY y m k) (onM y m k) := by
        by_cases q : onY y m k = y
        · have hm : m < onM y m k := by unfold onY at q; unfold onM; omega
          have := off_mono (y := y) m1 hm (by omega)
          rw [q]
          omega
        · have hy : y + 1 ≤ onY y m k := by unfold onY at q ⊢; omega
          have b1 := beg_mono (y := y + 1) (z := onY y m k) (by omega) hy
          have b2 := beg_succ y1
          have b3 := off_end (y := y)
          have b4 := off_mono (y := y) m1 (show m < 13 by omega) (Int.le_refl _)
          have b5 := (off_bounds (y := onY y m k) (m := onM y m k) a3 (by omega)).1
          omega
      omega
theorem dues_gt {t : Tm} {hs : List Int} {n : Nat} {ds : List (Int × Int)} (h : DuesR t hs n ds) : ∀ d, d ∈ ds → t.start < d.1 := fun d hd => by
  obtain ⟨i, hi, e⟩ := List.mem_iff_getElem.1 hd
  have hi : i < ds.length := hi
  obtain ⟨day, s, r1, r2, r3⟩ := h.at_ i (by rw [← h.len]; exact hi)
  rw [List.getElem?_eq_getElem hi, e] at r3
  have := roll_gt r1 (by omega)
  rw [(Prod.mk.inj (Option.some.inj r3)).1]
  exact this
theorem late_no {t : Tm} {loan day paid : Int} {l : List (Int × Int)} {i : Nat} {f : Int} (h : ∀ d, d ∈ l → ¬ d.1 + t.grace ≤ day) : lateGo t loan day paid l i f = (i, f, []) := by
  cases l with
  | nil => rfl
  | cons d r => exact lateGo_stop (h d List.mem_cons_self)
theorem night_no {S : Sto} {day : Int} {x : St} {next : Nat} (hs : x.status = 1) (hd : ∀ d, d ∈ S.dues → ¬ d.1 + S.t.grace ≤ day) :
    nightF S day x next = ({ x with int := x.int + (brings S.t.parts S.t.basis x.prin x.carry day).1, carry := (brings S.t.parts S.t.basis x.prin x.carry day).2 }, next, [(⟨S.loan, day, 2, 0⟩, refMade [⟨3, (brings S.t.parts S.t.basis x.prin x.carry day).1⟩, ⟨6, -(brings S.t.parts S.t.basis x.prin x.carry day).1⟩])]) := by
  unfold nightF
  rw [if_pos hs, late_no (fun d hm => hd d (List.mem_of_mem_drop hm))]
  rfl
theorem dayN_act {n : Int} (h : dayB n = true) : dayN 1 n = 1 := by
  obtain ⟨r, hr⟩ := one_ex (b := 1) h
  rw [dayN_eq hr]
  obtain ⟨y, m, d, _, _, e⟩ := hr.ex
  rw [e]
  rfl
def aw8 : Tm := ⟨1, 120000, 60000, 1, 12, numD 2024 1 31, 1500, 10⟩
theorem aw8Ok : TmOk aw8 := ⟨.inl rfl, by decide, by decide, .inl rfl, by decide, by decide, by decide, by decide⟩
theorem aw8In : TmIn aw8 := ⟨⟨by decide, by decide⟩, ⟨by decide, by decide⟩, ⟨by decide, by decide⟩, ⟨by decide, by decide⟩, ⟨by decide, by decide⟩, ⟨by decide, by decide⟩, ⟨by decide, by decide⟩, ⟨by decide, by decide⟩⟩
theorem br8 {n : Int} (h : dayB n = true) (p c : Nat) : brings 60000 1 (p : Int) (c : Int) n = ((((p * 60000 + c) / 365000000 : Nat) : Int), (((p * 60000 + c) % 365000000 : Nat) : Int)) := by
  unfold brings
  rw [dayN_act h]
  unfold dayX unitN
  rw [if_neg (by decide)]
  simp only [Int.toNat_natCast]
  rfl
theorem sm_ (n : Int) (h : (decide (-30000000000000000 ≤ n) && decide (n ≤ 30000000000000000)) = true) : sml n := by
  rw [Bool.and_eq_true, decide_eq_true_eq, decide_eq_true_eq] at h
  exact h
def s8 : Int := numD 2024 1 31
def kB8 : Key × List Leg := (⟨1, s8, 1, 0⟩, [⟨1, -120000⟩, ⟨2, 120000⟩])
def kA8 : Key × List Leg := (⟨1, s8, 2, 0⟩, [⟨3, 19⟩, ⟨6, -19⟩])
def kC8 : Key × List Leg := (⟨1, s8 + 1, 2, 0⟩, [⟨3, 20⟩, ⟨6, -20⟩])
def kP8 : Key × List Leg := (⟨1, s8 + 1, 4, 1⟩, [⟨1, 60000⟩, ⟨2, -59981⟩, ⟨3, -19⟩, ⟨4, 0⟩, ⟨5, 0⟩])
def kD8 : Key × List Leg := (⟨1, s8 + 1, 2, 0⟩, [⟨3, 10⟩, ⟨6, -10⟩])
structure S8 (S : Sto) : Prop where
  loan : S.loan = 1
  t : S.t = aw8
  dues : ∀ d, d ∈ S.dues → aw8.start < d.1
theorem s8_day : dayB s8 = true ∧ dayB (s8 + 1) = true := by decide
theorem day0 {S : Sto} (h : S8 S) (l : List Ev) (hl : eatF S s8 l { st0 with prin := 120000, status := 1 } = ({ st0 with prin := 120000, status := 1 }, l, [])) {th : Int} (hth : s8 ≤ th) :
    oneDay S th s8 ⟨st0, 0, l, []⟩ = ⟨⟨0, 19, 120000, 265000000, 0, 0, 0, 0, 1⟩, 0, l, [kB8, kA8]⟩ := by
  have ht := h.t
  have e0 : S.t.start = s8 := by rw [ht]; rfl
  have e1 : S.t.prin = 120000 := by rw [ht]; rfl
  have hb : boardF S s8 ⟨st0, 0, l, []⟩ = ⟨{ st0 with prin := 120000, status := 1 }, 0, l, [kB8]⟩ := by
    unfold boardF
    rw [if_pos e0.symm, e1, h.loan, mk_dn (a := 1) (b := 2) (by decide) (by decide) (by decide) (sm_ _ (by decide)) (sm_ _ (by decide))]
    rfl
  have ha : ateF S s8 ⟨{ st0 with prin := 120000, status := 1 }, 0, l, [kB8]⟩ = ⟨{ st0 with prin := 120000, status := 1 }, 0, l, [kB8]⟩ := by
    unfold ateF
    rw [hl]
    rfl
  have hq := br8 s8_day.1 120000 0
  have hn := night_no (S := S) (day := s8) (x := { st0 with prin := 120000, status := 1 }) (next := 0) rfl (fun d hd => by
    have := h.dues d hd
    rw [ht]
    show ¬ d.1 + 10 ≤ s8
    have e : aw8.start = s8 := rfl
    omega)
  unfold oneDay
  rw [if_pos hth, hb, ha]
  unfold sleepF
  rw [hn, ht, h.loan]
  have e2 : brings aw8.parts aw8.basis ({ st0 with prin := 120000, status := 1 } : St).prin ({ st0 with prin := 120000, status := 1 } : St).carry s8 = (19, 265000000) := hq
  rw [e2, mk_up (a := 3) (b := 6) (by decide) (by decide) (by decide) (sm_ _ (by decide)) (sm_ _ (by decide))]
  rfl
theorem tell8a {S : Sto} (h : S8 S) : tellF S (s8 + 1) [] = ⟨⟨0, 39, 120000, 165000000, 0, 0, 0, 0, 1⟩, 0, [], [kB8, kA8, kC8]⟩ := by
  have ht := h.t
  have e0 : S.t.start = s8 := by rw [ht]; rfl
  have e3 : (s8 + 1 + 2 - S.t.start).toNat = 3 := by rw [e0]; decide
  have hq := br8 s8_day.2 120000 265000000
  have hn := night_no (S := S) (day := s8 + 1) (x := ⟨0, 19, 120000, 265000000, 0, 0, 0, 0, 1⟩) (next := 0) rfl (fun d hd => by
    have := h.dues d hd
    rw [ht]
    show ¬ d.1 + 10 ≤ s8 + 1
    have e : aw8.start = s8 := rfl
    omega)
  have d0 := day0 h [] rfl (th := s8 + 1) (by omega)
  unfold tellF
  rw [e3]
  show oneDay S (s8 + 1) (S.t.start + ((2 : Nat) : Int)) (oneDay S (s8 + 1) (S.t.start + ((1 : Nat) : Int)) (oneDay S (s8 + 1) (S.t.start + ((0 : Nat) : Int)) ⟨st0, 0, [], []⟩)) = _
  rw [e0, show s8 + ((0 : Nat) : Int) = s8 by omega, d0, show s8 + ((1 : Nat) : Int) = s8 + 1 by omega]
  have d1 : oneDay S (s8 + 1) (s8 + 1) ⟨⟨0, 19, 120000, 265000000, 0, 0, 0, 0, 1⟩, 0, [], [kB8, kA8]⟩ = ⟨⟨0, 39, 120000, 165000000, 0, 0, 0, 0, 1⟩, 0, [], [kB8, kA8, kC8]⟩ := by
    have hb : boardF S (s8 + 1) ⟨⟨0, 19, 120000, 265000000, 0, 0, 0, 0, 1⟩, 0, [], [kB8, kA8]⟩ = ⟨⟨0, 19, 120000, 265000000, 0, 0, 0, 0, 1⟩, 0, [], [kB8, kA8]⟩ := by
      unfold boardF
      rw [if_neg (by rw [e0]; omega)]
    unfold oneDay
    rw [if_pos (by omega), hb]
    have ha : ateF S (s8 + 1) ⟨⟨0, 19, 120000, 265000000, 0, 0, 0, 0, 1⟩, 0, [], [kB8, kA8]⟩ = ⟨⟨0, 19, 120000, 265000000, 0, 0, 0, 0, 1⟩, 0, [], [kB8, kA8]⟩ := rfl
    rw [ha]
    unfold sleepF
    show TS.mk (nightF S (s8 + 1) ⟨0, 19, 120000, 265000000, 0, 0, 0, 0, 1⟩ 0).1 (nightF S (s8 + 1) ⟨0, 19, 120000, 265000000, 0, 0, 0, 0, 1⟩ 0).2.1 [] ([kB8, kA8] ++ (nightF S (s8 + 1) ⟨0, 19, 120000, 265000000, 0, 0, 0, 0, 1⟩ 0).2.2) = _
    rw [hn, ht, h.loan]
    have e2 : brings aw8.parts aw8.basis (⟨0, 19, 120000, 265000000, 0, 0, 0, 0, 1⟩ : St).prin (⟨0, 19, 120000, 265000000, 0, 0, 0, 0, 1⟩ : St).carry (s8 + 1) = (20, 165000000) := hq
    rw [e2, mk_up (a := 3) (b := 6) (by decide) (by decide) (by decide) (sm_ _ (by decide)) (sm_ _ (by decide))]
    rfl
  rw [d1]
  have hb : boardF S (s8 + ((2 : Nat) : Int)) ⟨⟨0, 39, 120000, 165000000, 0, 0, 0, 0, 1⟩, 0, [], [kB8, kA8, kC8]⟩ = ⟨⟨0, 39, 120000, 165000000, 0, 0, 0, 0, 1⟩, 0, [], [kB8, kA8, kC8]⟩ := by
    unfold boardF
    rw [if_neg (by rw [e0]; omega)]
  unfold oneDay
  rw [if_neg (by omega), hb]
  rfl
theorem eat_one {S : Sto} {day : Int} {e : Ev} {x y : St} {ls : List Leg} (h1 : e.day = day) (hee : eventF x e = (y, some ls)) : eatF S day [e] x = (y, [], [(⟨S.loan, day, e.kind, e.seq⟩, refMade ls)]) := by
  unfold eatF
  rw [if_pos (by omega), if_pos h1, hee]
  rfl
def ev8 : Ev := ⟨1, s8 + 1, 4, 60000⟩
theorem tell8b {S : Sto} (h : S8 S) : tellF S (s8 + 1) [ev8] = ⟨⟨0, 10, 60019, 216140000, 60000, 0, 0, 60000, 1⟩, 0, [], [kB8, kA8, kP8, kD8]⟩ := by
  have ht := h.t
  have e0 : S.t.start = s8 := by rw [ht]; rfl
  have e3 : (s8 + 1 + 2 - S.t.start).toNat = 3 := by rw [e0]; decide
  have hq := br8 s8_day.2 60019 265000000
  have hn := night_no (S := S) (day := s8 + 1) (x := ⟨0, 0, 60019, 265000000, 60000, 0, 0, 60000, 1⟩) (next := 0) rfl (fun d hd => by
    have := h.dues d hd
    rw [ht]
    show ¬ d.1 + 10 ≤ s8 + 1
    have e : aw8.start = s8 := rfl
    omega)
  have d0 := day0 h [ev8] (by unfold eatF; rw [if_neg (by show ¬ s8 + 1 ≤ s8; omega)]) (th := s8 + 1) (by omega)
  unfold tellF
  rw [e3]
  show oneDay S (s8 + 1) (S.t.start + ((2 : Nat) : Int)) (oneDay S (s8 + 1) (S.t.start + ((1 : Nat) : Int)) (oneDay S (s8 + 1) (S.t.start + ((0 : Nat) : Int)) ⟨st0, 0, [ev8], []⟩)) = _
  rw [e0, show s8 + ((0 : Nat) : Int) = s8 by omega, d0, show s8 + ((1 : Nat) : Int) = s8 + 1 by omega]
  have d1 : oneDay S (s8 + 1) (s8 + 1) ⟨⟨0, 19, 120000, 265000000, 0, 0, 0, 0, 1⟩, 0, [ev8], [kB8, kA8]⟩ = ⟨⟨0, 10, 60019, 216140000, 60000, 0, 0, 60000, 1⟩, 0, [], [kB8, kA8, kP8, kD8]⟩ := by
    have hb : boardF S (s8 + 1) ⟨⟨0, 19, 120000, 265000000, 0, 0, 0, 0, 1⟩, 0, [ev8], [kB8, kA8]⟩ = ⟨⟨0, 19, 120000, 265000000, 0, 0, 0, 0, 1⟩, 0, [ev8], [kB8, kA8]⟩ := by
      unfold boardF
      rw [if_neg (by rw [e0]; omega)]
    unfold oneDay
    rw [if_pos (by omega), hb]
    have hee : eventF ⟨0, 19, 120000, 265000000, 0, 0, 0, 0, 1⟩ ev8 = (⟨0, 0, 60019, 265000000, 60000, 0, 0, 60000, 1⟩, some (ptL 0 19 59981 ++ [⟨1, 60000⟩, ⟨5, -0⟩])) := by decide
    have hea : eatF S (s8 + 1) [ev8] ⟨0, 19, 120000, 265000000, 0, 0, 0, 0, 1⟩ = (⟨0, 0, 60019, 265000000, 60000, 0, 0, 60000, 1⟩, [], [kP8]) := by
      rw [eat_one (S := S) (day := s8 + 1) rfl hee, mk_pay (sm_ _ (by decide)) (sm_ _ (by decide)) (sm_ _ (by decide)) (sm_ _ (by decide)) (sm_ _ (by decide)), h.loan]
      rfl
    have ha : ateF S (s8 + 1) ⟨⟨0, 19, 120000, 265000000, 0, 0, 0, 0, 1⟩, 0, [ev8], [kB8, kA8]⟩ = ⟨⟨0, 0, 60019, 265000000, 60000, 0, 0, 60000, 1⟩, 0, [], [kB8, kA8, kP8]⟩ := by
      unfold ateF
      rw [hea]
      rfl
    rw [ha]
    unfold sleepF
    show TS.mk (nightF S (s8 + 1) ⟨0, 0, 60019, 265000000, 60000, 0, 0, 60000, 1⟩ 0).1 (nightF S (s8 + 1) ⟨0, 0, 60019, 265000000, 60000, 0, 0, 60000, 1⟩ 0).2.1 [] ([kB8, kA8, kP8] ++ (nightF S (s8 + 1) ⟨0, 0, 60019, 265000000, 60000, 0, 0, 60000, 1⟩ 0).2.2) = _
    rw [hn, ht, h.loan]
    have e2 : brings aw8.parts aw8.basis (⟨0, 0, 60019, 265000000, 60000, 0, 0, 60000, 1⟩ : St).prin (⟨0, 0, 60019, 265000000, 60000, 0, 0, 60000, 1⟩ : St).carry (s8 + 1) = (10, 216140000) := hq
    rw [e2, mk_up (a := 3) (b := 6) (by decide) (by decide) (by decide) (sm_ _ (by decide)) (sm_ _ (by decide))]
    rfl
  rw [d1]
  have hb : boardF S (s8 + ((2 : Nat) : Int)) ⟨⟨0, 10, 60019, 216140000, 60000, 0, 0, 60000, 1⟩, 0, [], [kB8, kA8, kP8, kD8]⟩ = ⟨⟨0, 10, 60019, 216140000, 60000, 0, 0, 60000, 1⟩, 0, [], [kB8, kA8, kP8, kD8]⟩ := by
    unfold boardF
    rw [if_neg (by rw [e0]; omega)]
  unfold oneDay
  rw [if_neg (by omega), hb]
  rfl
end Go.Proofs.YtjlfjjgjghdokaaGreatDoor
set_option linter.unusedVariables false
namespace Go.Proofs.YtjlfjjgjghdokaaGreatDoor
open Go Go.Proofs Go.Wk Go.Pl
def aw8L : List UInt8 := [108, 101, 118, 101, 108, 32, 49, 50, 48, 48, 46, 48, 48, 32, 54, 48, 48, 48, 48, 32, 97, 99, 116, 117, 97, 108, 32, 49, 50, 32, 50, 48, 50, 52, 45, 48, 49, 45, 51, 49, 32, 49, 53, 46, 48, 48, 32, 49, 48]
theorem aw8Txt : TmT aw8 (strOf aw8L) := by
  refine ⟨2024, 1, 31, awD, rfl, ?_⟩
  congr 1
  have e1 : bsL (lvName aw8.kind) = [108, 101, 118, 101, 108] := by decide
  have e2 : coinL aw8.prin = [49, 50, 48, 48, 46, 48, 48] := by simp [aw8, coinL, Lib.decDigits]
  have e3 : Lib.itoa aw8.parts = [54, 48, 48, 48, 48] := by simp [aw8, Lib.itoa, Lib.decDigits]
  have e4 : bsL (spName aw8.basis) = [97, 99, 116, 117, 97, 108] := by decide
  have e5 : Lib.itoa aw8.months = [49, 50] := by simp [aw8, Lib.itoa, Lib.decDigits]
  have e6 := (awDat [] [] []).1
  have e7 : coinL aw8.fee = [49, 53, 46, 48, 48] := by simp [aw8, coinL, Lib.decDigits]
  have e8 : Lib.itoa aw8.grace = [49, 48] := by simp [aw8, Lib.itoa, Lib.decDigits]
  unfold tmWords
  rw [e1, e2, e3, e4, e5, e6, e7, e8]
  decide
theorem aw8Read (w : World) (M I : BS) (hM : ∀ b, ¬ M b) (H : Hp ⟨w, M, I⟩ [] [LibF] w) :
    Ctr Tryz.prog 39 [.string (strOf aw8L)] w M I (fun _ : Unit => .tuple #[tmV aw8, .nilIface]) (fun _ => True) (fun _ => []) (fun _ => []) :=
  (tmRead aw8L (by decide) w M I hM H).imp fun a w' hφ hh => by
    rcases hφ with ⟨h1, h2, h3, h4⟩ | ⟨_, _, h3⟩
    · have e : a.1 = aw8 := TmT.inj h2 h3.parts.1 aw8Ok aw8In.parts.1 h4 aw8Txt
      exact ⟨(), by unfold teV; rw [h1, e]; rfl, trivial, hh⟩
    · exact absurd aw8Txt (h3 aw8 aw8Ok aw8In)
theorem told8a {S : Sto} (h : S8 S) {x : St} {E : List (Key × List Leg)} (ht : told S (s8 + 1) [] x E) : x = ⟨0, 39, 120000, 165000000, 0, 0, 0, 0, 1⟩ ∧ E = [kB8, kA8, kC8] := by
  obtain ⟨l, h1, _, h3, h4⟩ := ht
  have e : l = [] := h1.eq_nil
  have em : mn (s8 + 1) 3640000 = s8 + 1 := by decide
  rw [em, e, tell8a h] at h3 h4
  exact ⟨h3, h4⟩
theorem told8b {S : Sto} (h : S8 S) {x : St} {E : List (Key × List Leg)} (ht : told S (s8 + 1) [⟨ev8, false⟩] x E) : x = ⟨0, 10, 60019, 216140000, 60000, 0, 0, 60000, 1⟩ ∧ E = [kB8, kA8, kP8, kD8] := by
  obtain ⟨l, h1, _, h3, h4⟩ := ht
  have e : l = [ev8] := List.perm_singleton.1 h1
  have em : mn (s8 + 1) 3640000 = s8 + 1 := by decide
  rw [em, e, tell8b h] at h3 h4
  exact ⟨h3, h4⟩
theorem eok8a : EOk 1 [kB8, kA8, kC8] := by
  refine ⟨⟨by decide, by decide⟩, by decide +kernel, ?_, ?_⟩
  · intro e he
    simp only [List.mem_cons, List.not_mem_nil, or_false] at he
    rcases he with rfl | rfl | rfl <;> exact ⟨⟨by decide, by decide⟩, ⟨by decide, by decide⟩, ⟨by decide, by decide⟩, ⟨by decide, by decide⟩⟩
  · intro e he g hg
    simp only [List.mem_cons, List.not_mem_nil, or_false] at he
    rcases he with rfl | rfl | rfl
    all_goals
      simp only [kB8, kA8, kC8, List.mem_cons, List.not_mem_nil, or_false] at hg
      rcases hg with rfl | rfl <;> exact sm_ _ (by decide)
theorem eok8b : EOk 1 [kB8, kA8, kP8, kD8] := by
  refine ⟨⟨by decide, by decide⟩, by decide +kernel, ?_, ?_⟩
  · intro e he
    simp only [List.mem_cons, List.not_mem_nil, or_false] at he
    rcases he with rfl | rfl | rfl | rfl <;> exact ⟨⟨by decide, by decide⟩, ⟨by decide, by decide⟩, ⟨by decide, by decide⟩, ⟨by decide, by decide⟩⟩
  · intro e he g hg
    simp only [List.mem_cons, List.not_mem_nil, or_false] at he
    rcases he with rfl | rfl | rfl | rfl
    · simp only [kB8, List.mem_cons, List.not_mem_nil, or_false] at hg
      rcases hg with rfl | rfl <;> exact sm_ _ (by decide)
    · simp only [kA8, List.mem_cons, List.not_mem_nil, or_false] at hg
      rcases hg with rfl | rfl <;> exact sm_ _ (by decide)
    · simp only [kP8, List.mem_cons, List.not_mem_nil, or_false] at hg
      rcases hg with rfl | rfl | rfl | rfl | rfl <;> exact sm_ _ (by decide)
    · simp only [kD8, List.mem_cons, List.not_mem_nil, or_false] at hg
      rcases hg with rfl | rfl <;> exact sm_ _ (by decide)
theorem lnNil {B : Base} {S : List Asn} {F : List Fact} {w : World} (H : Hp B S F w) : Hp B S (LnF [] :: F) w := H.facts fun I ha f hf => by
  rcases List.mem_cons.1 hf with rfl | hf
  · intro x hx; cases hx
  · exact ha f hf
theorem live_nil (loan : Int) : liveOf loan ⟨[], [], []⟩ = [] := rfl
theorem sync8 {d1 d2 : Led} (h1 : SyncR ⟨[], [], []⟩ 1 [kB8, kA8, kC8] d1) (h2 : SyncR d1 1 [kB8, kA8, kP8, kD8] d2) : d1.lns.length = 3 ∧ d2.lns.length = 6 := by
  have e1 := h1.len
  rw [live_nil] at e1
  have e1 : d1.lns.length = 3 := e1
  have e2 := h2.len
  have q1 : (sans (liveOf 1 d1) [kB8, kA8, kP8, kD8]).length = 1 := by
    rw [sans_len h1.live (List.Perm.refl _)]
    decide
  have q2 : (sans [kB8, kA8, kP8, kD8] (liveOf 1 d1)).length = 2 := by
    rw [sans_len (List.Perm.refl _) h1.live]
    decide
  rw [q1, q2, e1] at e2
  exact ⟨e1, e2⟩
/-- An event that may be taken. -/
theorem takeGood (p : Nat) (o : Lo) (ok : LoOk o) (h18 : o.ps.length ≤ 18) (e : Ev) (hday : -2147483648 ≤ e.day ∧ e.day ≤ 2147483647) (today : Int) (ht : -2147483648 ≤ today ∧ today ≤ 2147483647) (hn : takeE o e today = none) (w : World) (M I : BS) (H : Hp ⟨w, M, I⟩ (loA p o) (loF o) w) :
    Ctr Tryz.prog 30 [.pointer (some ⟨p, 0, none⟩), evV e, .int .i32 today] w M I (fun _ : Lo => .nilIface) (fun r => r.S = o.S ∧ r.sb = o.sb ∧ r.dv = o.dv ∧ r.thr = o.thr ∧ r.ps = o.ps ++ [⟨e, false⟩] ∧ LoOk r ∧ told o.S o.thr (o.ps ++ [⟨e, false⟩]) r.x (r.h.es.map kl)) (fun r => loA p r) (fun r => loF r) := by
  refine (loanTake p o ok h18 e hday today ht w M I H).imp fun a w' hφ h => ?_
  unfold tkOk at hφ
  rw [hn] at hφ
  obtain ⟨h1, h2⟩ := hφ
  refine ⟨a.o, by rw [h1], h2, ?_⟩
  rw [h1] at h
  exact Hp.keep h
theorem aw8_one : IntKind.i32.wrap (aw8.start + 1) = s8 + 1 ∧ IntKind.i32.wrap (aw8.start + 2) = s8 + 2 ∧ aw8.start = s8 ∧ 0 ≤ s8 ∧ s8 ≤ 3600000 := by decide
theorem s8_of {o : Lo} (h : NewLo 1 aw8 [] o) : S8 o.S := ⟨h.loan, h.tm, fun d hd => dues_gt h.dues d hd⟩
theorem LoOk.run {o : Lo} (ok : LoOk o) {day : Int} {x : St} {h : Hd} (h1 : o.S.t.start - 1 ≤ day) (h2 : day ≤ o.S.t.start + 10000) : LoOk { o with thr := day, x := x, h := h } := ⟨ok.sto, ok.pn, ok.ev, ok.few, ⟨h1, h2⟩, ok.loan⟩
set_option maxHeartbeats 4000000 in
set_option maxRecDepth 20000 in
theorem awake18 (w : World) (M I : BS) (hM : ∀ b, ¬ M b) (H : Hp ⟨w, M, I⟩ [] [LibF] w) :
    Ctr Tryz.prog 24 [] w M I (fun _ : Unit => .bool true) (fun _ => True) (fun _ => []) (fun _ => []) := by
  have e8 := aw8_one
  have e81 := e8.1
  have e82 := e8.2.1
  have e83 := e8.2.2.1
  have e84 := e8.2.2.2
  refine Exe.of_ev tok Tryz.call24 Tryz.func24 rfl rfl rfl ?_
  refine call_rule H (fun M I h0 h => aw8Read _ M I (h0 rfl) h) fun _ w1 _ H1 => ?_
  refine alloc_as tok H1 (tmC ⟨0, 0, 0, 0, 0, 0, 0, 0⟩) rfl rfl rfl fun b w2 H2 => ?_
  refine store_as tok H2 (tmC aw8) rfl rfl rfl rfl rfl fun w3 H3 => ?_
  refine load_rule tok H3 (v := tmV aw8) rfl ?_
  have H4 : Hp ⟨w, M, I⟩ [blk b (tmC aw8) 28] [Sl dayR (.slice none 0 0) [], LibF] w3 := Hp.keep (Hp.slNil dayR H3)
  refine call_rule H4 (fun M I h0 h => loanNew 1 ⟨by decide, by decide⟩ aw8 aw8In none 0 0 [] (tmB_iff.2 aw8Ok) (by decide) _ M I (h0 rfl) h) fun a w4 ha H5 => ?_
  refine call_rule H5 (fun M I _ h => newX _ M I h) fun l w5 _ H6 => ?_
  have hs8 := s8_of ha
  have hst : a.2.S.t.start = s8 := by rw [ha.tm]; exact e83
  have hthr : a.2.thr = s8 - 1 := by rw [ha.thr, e83]
  have hps : a.2.ps = [] := ha.ps
  refine load_rule tok H6 (v := .int .i32 aw8.start) rfl ?_
  have H6 : Hp ⟨w, M, I⟩ [blk a.1 (loC a.2) 141, row 105 5 (.slice a.2.pv.A a.2.pv.n a.2.pv.c) a.2.pv.n (pasC a.2.ps), blk a.2.sb (stoC a.2.S a.2.dv) 120, row 71 5 (.slice a.2.h.A a.2.h.es.length a.2.h.c) a.2.h.es.length (ensC a.2.h.es), ledO l ⟨[], [], []⟩, blk b (tmC aw8) 28] [Sl dueR (.slice a.2.dv.A a.2.dv.n a.2.dv.c) a.2.S.dues] w5 := Hp.keep H6
  refine call_rule H6 (fun M I _ h => loanRun a.1 a.2 ha.ok aw8.start (by rw [hthr, e83]; omega) (by rw [hst, e83]; omega) (by rw [e83]; omega) _ M I h) fun r1 w6 hr1 H7 => ?_
  refine Exists.elim (show ∃ o1 : Lo, o1 = { a.2 with thr := aw8.start, x := r1.1, h := r1.2 } from ⟨_, rfl⟩) fun o1 eo1 => ?_
  have ok1 : LoOk o1 := by rw [eo1]; exact ha.ok.run (by rw [hst, e83]; omega) (by rw [hst, e83]; omega)
  have es1 : o1.S = a.2.S := by rw [eo1]
  have et1 : o1.thr = aw8.start := by rw [eo1]
  have ep1 : o1.ps = [] := by rw [eo1]; exact hps
  have H7 : Hp ⟨w, M, I⟩ [blk a.1 (loC o1) 141, row 105 5 (.slice o1.pv.A o1.pv.n o1.pv.c) o1.pv.n (pasC o1.ps), blk o1.sb (stoC o1.S o1.dv) 120, row 71 5 (.slice o1.h.A o1.h.es.length o1.h.c) o1.h.es.length (ensC o1.h.es), ledO l ⟨[], [], []⟩, blk b (tmC aw8) 28] [Sl dueR (.slice o1.dv.A o1.dv.n o1.dv.c) o1.S.dues] w6 := by
    rw [eo1]
    exact Hp.keep H7
  have hst1 : o1.S.t.start = s8 := by rw [es1]; exact hst
  refine load_rule tok H7 (v := .int .i32 aw8.start) rfl ?_
  refine call_rule H7 (fun M I _ h => loanRun a.1 o1 ok1 (IntKind.i32.wrap (aw8.start + 1)) (by rw [et1, e81, e83]) (by rw [hst1, e81]; omega) (by rw [e81]; omega) _ M I h) fun r2 w7 hr2 H8 => ?_
  refine Exists.elim (show ∃ o2 : Lo, o2 = { o1 with thr := IntKind.i32.wrap (aw8.start + 1), x := r2.1, h := r2.2 } from ⟨_, rfl⟩) fun o2 eo2 => ?_
  have ok2 : LoOk o2 := by rw [eo2]; exact ok1.run (by rw [hst1, e81]; omega) (by rw [hst1, e81]; omega)
  have es2 : o2.S = a.2.S := by rw [eo2]; exact es1
  have et2 : o2.thr = s8 + 1 := by rw [eo2]; exact e81
  have ep2 : o2.ps = [] := by rw [eo2]; exact ep1
  have H8 : Hp ⟨w, M, I⟩ [blk a.1 (loC o2) 141, row 105 5 (.slice o2.pv.A o2.pv.n o2.pv.c) o2.pv.n (pasC o2.ps), blk o2.sb (stoC o2.S o2.dv) 120, row 71 5 (.slice o2.h.A o2.h.es.length o2.h.c) o2.h.es.length (ensC o2.h.es), ledO l ⟨[], [], []⟩, blk b (tmC aw8) 28] [Sl dueR (.slice o2.dv.A o2.dv.n o2.dv.c) o2.S.dues, EnF o2.h.es, LnF (Led.mk [] [] []).lns] w7 := by
    rw [eo2]
    exact Hp.keep (lnNil H8)
  have hq2 : o2.x = ⟨0, 39, 120000, 165000000, 0, 0, 0, 0, 1⟩ ∧ o2.h.es.map kl = [kB8, kA8, kC8] := by
    have ht : told o2.S (s8 + 1) [] o2.x (o2.h.es.map kl) := by
      have h0 := hr2
      rw [e81, ep1] at h0
      rw [eo2]
      exact h0
    rw [es2] at ht
    exact told8a hs8 ht
  have hloan2 : o2.S.loan = 1 := by rw [es2]; exact ha.loan
  have hl2 : o2.h.es.length = 3 := by
    have := congrArg List.length hq2.2
    rwa [List.length_map] at this
  refine call_rule H8 (fun M I _ h => sync a.1 o2 l ⟨[], [], []⟩ inv_nil (by decide) 0 (30000000000000000 * (([kB8, kA8, kC8].length : Nat) : Int)) lb_nil (by rw [hq2.2]; exact absE_len eok8a.sml) (by decide) ok2.loan (by rw [hloan2, hq2.2]; exact eok8a) (by omega) _ M I h) fun d1 w8 hd1 H9 => ?_
  have hd1 : SyncR ⟨[], [], []⟩ 1 [kB8, kA8, kC8] d1 := by
    have h0 := hd1
    rw [hloan2, hq2.2] at h0
    exact h0
  have hlen1 : d1.lns.length = 3 := by
    have e1 := hd1.len
    rw [live_nil] at e1
    exact e1
  refine call_rule H9 (fun M I _ h => lenX l d1 _ M I h) fun _ w9 _ H10 => ?_
  have g1 : (!((d1.lns.length : Int) == 3)) = false := by rw [hlen1]; rfl
  refine br (fun q => absurd (g1.symm.trans q) (by decide)) (fun _ => ?_)
  refine load_rule tok H10 (v := .int .i32 aw8.start) rfl ?_
  refine load_rule tok H10 (v := .int .i32 aw8.start) rfl ?_
  have ee : (⟨1, IntKind.i32.wrap (aw8.start + 1), 4, 60000⟩ : Ev) = ev8 := by rw [e81]; rfl
  have hn : takeE o2 ⟨1, IntKind.i32.wrap (aw8.start + 1), 4, 60000⟩ (IntKind.i32.wrap (aw8.start + 2)) = none := by
    rw [ee, e82]
    have q1 : ¬ evRB ev8 = false := by decide
    have q2 : ¬ 0 ≤ findI ev8.seq o2.ps 0 := by rw [ep2]; decide
    have q3 : ¬ opnB o2 ev8.day (s8 + 2) = false := by
      have h1 : opnB o2 (s8 + 1) (s8 + 2) = true := by
        unfold opnB
        rw [es2, hst, et2, decide_eq_true (by omega), decide_eq_true (by omega), decide_eq_true (by omega), decide_eq_true (by omega)]
        rfl
      have h2 : opnB o2 ev8.day (s8 + 2) = true := h1
      rw [h2]
      decide
    have q4 : ¬ o2.x.status = 2 := by rw [hq2.1]; decide
    have q5 : ¬ (o2.x.status = 3 ∧ ev8.kind ≠ 4) := by rw [hq2.1]; decide
    unfold takeE
    rw [if_neg q1, if_neg q2, if_neg q3, if_neg q4, if_neg q5]
  have H10 : Hp ⟨w, M, I⟩ [blk a.1 (loC o2) 141, row 105 5 (.slice o2.pv.A o2.pv.n o2.pv.c) o2.pv.n (pasC o2.ps), blk o2.sb (stoC o2.S o2.dv) 120, row 71 5 (.slice o2.h.A o2.h.es.length o2.h.c) o2.h.es.length (ensC o2.h.es), ledO l d1, blk b (tmC aw8) 28] [Sl dueR (.slice o2.dv.A o2.dv.n o2.dv.c) o2.S.dues, EnF o2.h.es, LnF d1.lns] w9 := Hp.keep H10
  refine call_rule H10 (fun M I _ h => takeGood a.1 o2 ok2 (by rw [ep2]; decide) ⟨1, IntKind.i32.wrap (aw8.start + 1), 4, 60000⟩ (by show -2147483648 ≤ IntKind.i32.wrap (aw8.start + 1) ∧ IntKind.i32.wrap (aw8.start + 1) ≤ 2147483647; rw [e81]; omega) (IntKind.i32.wrap (aw8.start + 2)) (by rw [e82]; omega) hn _ M I h) fun r w10 hr H11 => ?_
  have hrs : r.S = a.2.S := by rw [hr.1]; exact es2
  have okr : LoOk r := hr.2.2.2.2.2.1
  have hloan3 : r.S.loan = 1 := by rw [hrs]; exact ha.loan
  have hq3 : r.x = ⟨0, 10, 60019, 216140000, 60000, 0, 0, 60000, 1⟩ ∧ r.h.es.map kl = [kB8, kA8, kP8, kD8] := by
    have ht := hr.2.2.2.2.2.2
    rw [ee, ep2, et2, es2] at ht
    exact told8b hs8 ht
  have hl3 : r.h.es.length = 4 := by
    have := congrArg List.length hq3.2
    rwa [List.length_map] at this
  have hlb1 : LB d1 (0 + 30000000000000000 * (([kB8, kA8, kC8].length : Nat) : Int)) := hd1.lb inv_nil eok8a.ek (fun a => Int.le_refl 0) (absE_len eok8a.sml)
  refine call_rule H11 (fun M I _ h => sync a.1 r l d1 hd1.inv (by omega) _ (30000000000000000 * (([kB8, kA8, kP8, kD8].length : Nat) : Int)) hlb1 (by rw [hq3.2]; exact absE_len eok8b.sml) (by decide) okr.loan (by rw [hloan3, hq3.2]; exact eok8b) (by omega) _ M I h) fun d2 w11 hd2 H12 => ?_
  have hlen2 : d2.lns.length = 6 := by
    have h0 := hd2
    rw [hloan3, hq3.2] at h0
    exact (sync8 hd1 h0).2
  refine call_rule H12 (fun M I _ h => lenX l d2 _ M I h) fun _ w12 _ H13 => ?_
  have g2 : ((d2.lns.length : Int) == 6) = true := by rw [hlen2]; rfl
  refine br (fun _ => ?_) (fun q => absurd (g2.symm.trans q) (by decide))
  refine call_rule H13 (fun M I _ h => loanState a.1 r _ M I h) fun _ w13 _ H14 => ?_
  refine Exists.intro () (And.intro (congrArg Value.bool ?_) (And.intro trivial (Hp.keep H14)))
  show (r.x.cash == 60000) = true
  rw [hq3.1]
  rfl
end Go.Proofs.YtjlfjjgjghdokaaGreatDoor
set_option linter.unusedVariables false
namespace Go.Proofs.YtjlfjjgjghdokaaGreatDoor
open Go Go.Proofs Go.Wk
theorem ownTm18 (t : Tm) (hin : TmIn t) : CB 26 [tmV t] (rtV t) := by
  intro w M I H
  have es : IntKind.i64.wrap t.start = t.start := by
    obtain ⟨a, b⟩ := hin.start
    simp only [kLo, kHi] at a b
    exact i64w (by omega) (by omega)
  refine Exe.of_ev tok Tryz.call26 Tryz.func26 rfl rfl rfl ?_
  refine box_as H (tmC t) rfl fun r w1 H1 => ?_
  refine alloc_as tok H1 (rtC ⟨0, 0, 0, 0, 0, 0, 0, 0⟩) rfl rfl rfl fun o w2 H2 => ?_
  refine load_rule tok H2 (v := .int .u8 t.kind) rfl ?_
  refine load_rule tok H2 (v := .int .i64 t.prin) rfl ?_
  refine load_rule tok H2 (v := .int .u32 t.parts) rfl ?_
  refine load_rule tok H2 (v := .int .u8 t.basis) rfl ?_
  refine load_rule tok H2 (v := .int .i64 t.months) rfl ?_
  refine load_rule tok H2 (v := .int .i32 t.start) rfl ?_
  refine load_rule tok H2 (v := .int .i64 t.fee) rfl ?_
  refine load_rule tok H2 (v := .int .i64 t.grace) rfl ?_
  refine store_as tok H2 (rtC ⟨t.kind, t.prin, t.parts, t.basis, t.months, IntKind.i64.wrap t.start, t.fee, t.grace⟩) rfl rfl rfl rfl rfl fun w3 H3 => ?_
  rw [es] at H3
  refine Exists.intro ⟨o, 0, none⟩ (Exists.intro (rtV t) (And.intro rfl (And.intro (Hp.ld (T := tb) tok H3 rfl) ?_)))
  exact Exists.intro () (And.intro rfl (And.intro trivial (Hp.keep H3)))
/-- With no more than 24 months. -/
def smT (t : Tm) : Tm := { t with months := if 24 < t.months then 24 else t.months }
theorem smT_in {t : Tm} (h : TmIn t) : TmIn (smT t) := by
  have hm := h.months
  refine ⟨h.kind, h.prin, h.parts, h.basis, ?_, h.start, h.fee, h.grace⟩
  show inK .i64 (if 24 < t.months then 24 else t.months)
  split
  · exact ⟨by decide, by decide⟩
  · exact hm
theorem small_ (t : Tm) : CB 25 [tmV t] (tmV (smT t)) := by
  intro w M I H
  refine Exe.of_ev tok Tryz.call25 Tryz.func25 rfl rfl rfl ?_
  refine box_as H (tmC t) rfl fun r w1 H1 => ?_
  refine alloc_as tok H1 (tmC ⟨0, 0, 0, 0, 0, 0, 0, 0⟩) rfl rfl rfl fun o w2 H2 => ?_
  refine load_rule tok H2 (v := .int .i64 t.months) rfl ?_
  refine store_as tok H2 (tmC (smT t)) rfl rfl rfl rfl rfl fun w3 H3 => ?_
  refine load_rule tok H3 (v := tmV (smT t)) rfl ?_
  refine store_as tok H3 (tmC (smT t)) rfl rfl rfl rfl rfl fun w4 H4 => ?_
  refine Exists.intro ⟨o, 0, none⟩ (Exists.intro (tmV (smT t)) (And.intro rfl (And.intro (Hp.ld (T := tb) tok H4 rfl) ?_)))
  exact Exists.intro () (And.intro rfl (And.intro trivial (Hp.keep H4)))
end Go.Proofs.YtjlfjjgjghdokaaGreatDoor
set_option linter.unusedVariables false
namespace Go.Proofs.YtjlfjjgjghdokaaGreatDoor
open Go Go.Proofs Go.Wk
theorem takeBad (p : Nat) (o : Lo) (ok : LoOk o) (h18 : o.ps.length ≤ 18) (e : Ev) (hday : -2147483648 ≤ e.day ∧ e.day ≤ 2147483647) (today : Int) (ht : -2147483648 ≤ today ∧ today ≤ 2147483647) (c : Int) (hn : takeE o e today = some c) (w : World) (M I : BS) (H : Hp ⟨w, M, I⟩ (loA p o) (loF o) w) :
    Ctr Tryz.prog 30 [.pointer (some ⟨p, 0, none⟩), evV e, .int .i32 today] w M I (fun f : Nat => .iface 116 (.pointer (some ⟨f, 0, none⟩))) (fun _ => True) (fun f => blk f [.int .u64 o.S.loan, .iface 100 (.int .i64 c)] 118 :: loA p o) (fun _ => loF o) := by
  refine (loanTake p o ok h18 e hday today ht w M I H).imp fun a w' hφ h => ?_
  unfold tkOk at hφ
  rw [hn] at hφ
  obtain ⟨⟨f, ef⟩, eo⟩ := hφ
  refine ⟨f, ?_, trivial, ?_⟩
  · rw [ef]
  · rw [ef, eo] at h
    exact h
end Go.Proofs.YtjlfjjgjghdokaaGreatDoor
set_option linter.unusedVariables false
namespace Go.Proofs.YtjlfjjgjghdokaaGreatDoor
open Go Go.Proofs Go.Wk
def loO (p : Nat) (o : Lo) : Asn := packA (fun _ : Unit => True) fun _ => loA p o
section
variable {B : Base} {S L : List Asn} {F : List Fact} {w : World} {p : Nat} {o : Lo}
theorem loOpen (H : Hp B L F w) [k : Take L (loO p o) S] : Hp B (blk p (loC o) 141 :: row 105 5 (.slice o.pv.A o.pv.n o.pv.c) o.pv.n (pasC o.ps) :: blk o.sb (stoC o.S o.dv) 120 :: row 71 5 (.slice o.h.A o.h.es.length o.h.c) o.h.es.length (ensC o.h.es) :: S) F w := by
  obtain ⟨_, _, h⟩ := Hp.open_ (L := L) (S := S) (p := fun _ : Unit => True) (f := fun _ => loA p o) H (k := k)
  exact h
theorem loClose (H : Hp B L F w) [k : Pick L (loA p o) S] : Hp B (loO p o :: S) F w := Hp.close (p := fun _ : Unit => True) (f := fun _ => loA p o) () trivial H (k := k)
end
theorem runX (p : Nat) (o : Lo) (ok : LoOk o) (day : Int) (hd : day = o.thr + 1) (h1 : day ≤ o.S.t.start + 10000) (h2 : day ≤ 3640000) (w : World) (M I : BS) (H : Hp ⟨w, M, I⟩ [loO p o] [Sl dueR (.slice o.dv.A o.dv.n o.dv.c) o.S.dues] w) :
    Ctr Tryz.prog 28 [.pointer (some ⟨p, 0, none⟩), .int .i32 day] w M I (fun _ : St × Hd => .nilIface) (fun a => told o.S day o.ps a.1 (a.2.es.map kl)) (fun a => [loO p { o with thr := day, x := a.1, h := a.2 }]) (fun a => [EnF a.2.es]) :=
  (loanRun p o ok day hd h1 h2 w M I (loOpen (p := p) (o := o) H)).imp fun a w' hφ h => ⟨a, rfl, hφ, loClose (p := p) (o := { o with thr := day, x := a.1, h := a.2 }) h⟩
theorem takeG (p : Nat) (o : Lo) (ok : LoOk o) (h18 : o.ps.length ≤ 18) (e : Ev) (hday : -2147483648 ≤ e.day ∧ e.day ≤ 2147483647) (today : Int) (ht : -2147483648 ≤ today ∧ today ≤ 2147483647) (hn : takeE o e today = none) (w : World) (M I : BS) (H : Hp ⟨w, M, I⟩ [loO p o] (loF o) w) :
    Ctr Tryz.prog 30 [.pointer (some ⟨p, 0, none⟩), evV e, .int .i32 today] w M I (fun _ : Lo => .nilIface) (fun r => r.S = o.S ∧ r.sb = o.sb ∧ r.dv = o.dv ∧ r.thr = o.thr ∧ r.ps = o.ps ++ [⟨e, false⟩] ∧ LoOk r ∧ told o.S o.thr (o.ps ++ [⟨e, false⟩]) r.x (r.h.es.map kl)) (fun r => [loO p r]) (fun r => loF r) :=
  (takeGood p o ok h18 e hday today ht hn w M I (loOpen (p := p) (o := o) H)).imp fun r w' hφ h => ⟨r, rfl, hφ, loClose (p := p) (o := r) h⟩
theorem takeB (p : Nat) (o : Lo) (ok : LoOk o) (h18 : o.ps.length ≤ 18) (e : Ev) (hday : -2147483648 ≤ e.day ∧ e.day ≤ 2147483647) (today : Int) (ht : -2147483648 ≤ today ∧ today ≤ 2147483647) (c : Int) (hn : takeE o e today = some c) (w : World) (M I : BS) (H : Hp ⟨w, M, I⟩ [loO p o] (loF o) w) :
    Ctr Tryz.prog 30 [.pointer (some ⟨p, 0, none⟩), evV e, .int .i32 today] w M I (fun f : Nat => .iface 116 (.pointer (some ⟨f, 0, none⟩))) (fun _ => True) (fun _ => [loO p o]) (fun _ => loF o) :=
  (takeBad p o ok h18 e hday today ht c hn w M I (loOpen (p := p) (o := o) H)).imp fun f w' hφ h => ⟨f, rfl, trivial, Hp.keep (loClose (p := p) (o := o) h)⟩
theorem syncX (p : Nat) (o : Lo) (l : Nat) (d0 : Led) (hI : Inv d0) (hd : d0.lns.length ≤ 40000) (X Y : Int) (hb : LB d0 X) (hY : ∀ a, absE a (o.h.es.map kl) ≤ Y) (hXY : X + Y ≤ 8000000000000000000) (hlo : inK .u32 o.S.loan) (hE : EOk o.S.loan (o.h.es.map kl)) (h12 : o.h.es.length ≤ 10000) (w : World) (M I : BS)
    (H : Hp ⟨w, M, I⟩ [loO p o, ledO l d0] [EnF o.h.es, LnF d0.lns] w) :
    Ctr Tryz.prog 31 [.pointer (some ⟨p, 0, none⟩), .pointer (some ⟨l, 0, none⟩)] w M I (fun _ : Led => .nilIface) (fun d => SyncR d0 o.S.loan (o.h.es.map kl) d) (fun d => [loO p o, ledO l d]) (fun d => [LnF d.lns]) := by
  have H1 := loOpen (p := p) (o := o) H
  exact (Ctr.frame H1 fun M I _ h => sync p o l d0 hI hd X Y hb hY hXY hlo hE h12 _ M I h).imp fun d w' hφ h => ⟨d, rfl, hφ, Hp.keep (loClose (p := p) (o := o) h)⟩
theorem stateX (p : Nat) (o : Lo) (w : World) (M I : BS) (H : Hp ⟨w, M, I⟩ [loO p o] [] w) :
    Ctr Tryz.prog 32 [.pointer (some ⟨p, 0, none⟩)] w M I (fun _ : Unit => stV o.x) (fun _ => True) (fun _ => [loO p o]) (fun _ => []) := by
  have H1 := loOpen (p := p) (o := o) H
  exact (Ctr.frame H1 fun M I _ h => loanState p o _ M I h).imp fun d w' hφ h => ⟨d, rfl, trivial, loClose (p := p) (o := o) h⟩
/-- A loan of a script. -/
structure LoI (S : Sto) (thr : Int) (n : Nat) (o : Lo) : Prop where
  s : o.S = S
  th : o.thr = thr
  ok : LoOk o
  ps : PsOk o.ps
  few : o.ps.length ≤ n
  told : told S thr o.ps o.x (o.h.es.map kl)
theorem LoI.td {S : Sto} {thr : Int} {n : Nat} {o : Lo} (h : LoI S thr n o) (hn : n ≤ 19) (hthr : S.t.start - 1 ≤ thr ∧ thr ≤ S.t.start + 250) : TdOk S o.x (o.h.es.map kl) :=
  told_ok (by have := h.ok.sto; rwa [h.s] at this) (by have := h.ok.loan; rwa [h.s] at this) h.ps (Nat.le_trans h.few hn) hthr h.told
theorem LoI.more {S : Sto} {thr : Int} {n m : Nat} {o : Lo} (h : LoI S thr n o) (hm : n ≤ m) : LoI S thr m o := ⟨h.s, h.th, h.ok, h.ps, Nat.le_trans h.few hm, h.told⟩
theorem find_no {q : Int} : ∀ {ps : List Pa} {i : Nat}, ¬ 0 ≤ findI q ps i → ∀ p, p ∈ ps → p.ev.seq ≠ q
  | [], _, _, p, hp => by cases hp
  | x :: r, i, h, p, hp => by
    unfold findI at h
    split at h
    · exact absurd (Int.natCast_nonneg i) h
    · rename_i hne
      rcases List.mem_cons.1 hp with rfl | hp
      · exact hne
      · exact find_no h p hp
theorem take_some {o : Lo} {e : Ev} {today : Int} (h : takeE o e today = none) : evRB e = true ∧ ¬ 0 ≤ findI e.seq o.ps 0 := by
  unfold takeE at h
  split at h
  · cases h
  · rename_i h1
    split at h
    · cases h
    · rename_i h2
      exact ⟨by simpa using h1, h2⟩
theorem LoI.take {S : Sto} {thr today : Int} {n : Nat} {o r : Lo} {e : Ev} (h : LoI S thr n o) (he : takeE o e today = none) (hq : inK .u32 e.seq) (hr : r.S = o.S ∧ r.sb = o.sb ∧ r.dv = o.dv ∧ r.thr = o.thr ∧ r.ps = o.ps ++ [⟨e, false⟩] ∧ LoOk r ∧ Go.Proofs.YtjlfjjgjghdokaaGreatDoor.told o.S o.thr (o.ps ++ [⟨e, false⟩]) r.x (r.h.es.map kl)) : LoI S thr (n + 1) r := by
  obtain ⟨h1, h2, h3, h4, h5, h6, h7⟩ := hr
  obtain ⟨g1, g2⟩ := take_some he
  refine ⟨by rw [h1, h.s], by rw [h4, h.th], h6, ⟨fun p hp => ?_, fun p hp => ?_, ?_⟩, ?_, ?_⟩
  · rw [h5] at hp
    rcases List.mem_append.1 hp with hp | hp
    · exact h.ps.ev p hp
    · rw [List.mem_singleton] at hp
      rw [hp]
      exact g1
  · rw [h5] at hp
    rcases List.mem_append.1 hp with hp | hp
    · exact h.ps.seq p hp
    · rw [List.mem_singleton] at hp
      rw [hp]
      exact hq
  · rw [h5, List.map_append]
    refine List.nodup_append.2 ⟨h.ps.nd, by simp, fun a ha b hb => ?_⟩
    obtain ⟨p, hp, rfl⟩ := List.mem_map.1 ha
    simp only [List.map_cons, List.map_nil, List.mem_singleton] at hb
    rw [hb]
    exact find_no g2 p hp
  · have := h.few
    rw [h5, List.length_append]
    show o.ps.length + 1 ≤ n + 1
    omega
  · rw [← h.s, ← h.th, h5]
    exact h7
/-- The ledger of one loan's script. -/
structure LdI (loan : Int) (n : Nat) (d : Led) : Prop where
  inv : Inv d
  lb : LB d 600000000000000000
  oth : ∀ e, e ∈ allOf d → e.1.loan = loan
  few : (allOf d).length ≤ 780
  len : d.lns.length ≤ 1600 * n
theorem ldi_nil (loan : Int) : LdI loan 0 ⟨[], [], []⟩ := ⟨inv_nil, ⟨bal_nil, (fun _ => by show (0 : Int) ≤ 600000000000000000; decide), (fun x hx => by cases hx)⟩, (fun e he => by cases he), Nat.zero_le _, Nat.le_refl _⟩
theorem LdI.more {loan : Int} {n m : Nat} {d : Led} (h : LdI loan n d) (hm : n ≤ m) : LdI loan m d := ⟨h.inv, h.lb, h.oth, h.few, by have := h.len; omega⟩
theorem LdI.step {S : Sto} {n : Nat} {d d' : Led} {x : St} {E : List (Key × List Leg)} (h : LdI S.loan n d) (td : TdOk S x E) (hs : SyncR d S.loan E d') : LdI S.loan (n + 1) d' := by
  have hf : ((allOf d).filter fun e => decide (e.1.loan ≠ S.loan)) = [] := List.filter_eq_nil_iff.2 fun e he => by simp [h.oth e he]
  have hp := hs.all h.inv td.eok.ek
  rw [hf, List.nil_append] at hp
  have h1 := hs.lb (X := 0) (Y := 600000000000000000) h.inv td.eok.ek (fun a => by rw [hf]; exact Int.le_refl 0) td.abs
  rw [Int.zero_add] at h1
  have hl := hs.len
  have h2 : (sans (liveOf S.loan d) E).length ≤ (liveOf S.loan d).length := List.length_filter_le _ _
  have h3 : (sans E (liveOf S.loan d)).length ≤ E.length := List.length_filter_le _ _
  have h4 : (liveOf S.loan d).length ≤ (allOf d).length := by rw [liveOf_eq]; exact List.length_filter_le _ _
  have h5 := td.len
  have h6 := h.few
  have h7 := h.len
  exact ⟨hs.inv, h1, fun e he => td.eok.ek.loan e (hp.mem_iff.1 he), by rw [hp.length_eq]; exact h5, by omega⟩
theorem LdI.live {loan : Int} {n : Nat} {d : Led} (h : LdI loan n d) : (liveOf loan d).length ≤ 780 := by
  have h4 : (liveOf loan d).length ≤ (allOf d).length := by rw [liveOf_eq]; exact List.length_filter_le _ _
  have := h.few
  omega
/-- Of the same events, in whatever order: the same. -/
theorem told_same {S : Sto} {thr : Int} {ps qs : List Pa} {x y : St} {E F : List (Key × List Leg)} (hn : ((liveL ps).map Ev.seq).Nodup) (hp : (liveL ps).Perm (liveL qs)) (h1 : told S thr ps x E) (h2 : told S thr qs y F) : x = y ∧ E = F := by
  obtain ⟨l1, p1, s1, a1, b1⟩ := h1
  obtain ⟨l2, p2, s2, a2, b2⟩ := h2
  have hq : ∀ u v, u ∈ l1 → v ∈ l1 → u.seq = v.seq → u = v := fun u v hu hv e => by
    have hn1 : (l1.map Ev.seq).Nodup := ((p1.map Ev.seq).nodup_iff).2 hn
    obtain ⟨i, hi, ei⟩ := List.mem_iff_getElem.1 hu
    obtain ⟨j, hj, ej⟩ := List.mem_iff_getElem.1 hv
    rw [List.nodup_iff_pairwise_ne, List.pairwise_map, List.pairwise_iff_getElem] at hn1
    have hij : i = j := by
      rcases Nat.lt_trichotomy i j with g | g | g
      · exact absurd (by rw [ei, ej, e]) (hn1 i j hi hj g)
      · exact g
      · exact absurd (by rw [ei, ej, e]) (hn1 j i hj hi g)
    subst hij
    rw [← ei, ← ej]
  have hll : l1 = l2 := srt_unique ((p1.trans hp).trans p2.symm) s1 s2 hq
  rw [a1, a2, b1, b2, hll]
  exact ⟨rfl, rfl⟩
theorem kLt_or {a b : Key} (h1 : ¬ kLt a b) (h2 : ¬ kLt b a) : a = b := by
  obtain ⟨a1, a2, a3, a4⟩ := a
  obtain ⟨b1, b2, b3, b4⟩ := b
  unfold kLt at h1 h2
  simp only at h1 h2
  have e1 : a1 = b1 := by omega
  have e2 : a2 = b2 := by omega
  have e3 : a3 = b3 := by omega
  have e4 : a4 = b4 := by omega
  rw [e1, e2, e3, e4]
theorem srtK_uniq : ∀ {l m : List (Key × List Leg)}, l.Perm m → srtK l → srtK m → (l.map Prod.fst).Nodup → l = m
  | [], m, hp, _, _, _ => (hp.symm.eq_nil).symm
  | a :: r, [], hp, _, _, _ => by cases hp.eq_nil
  | a :: r, b :: s, hp, h1, h2, hn => by
    have ha : a ∈ b :: s := hp.mem_iff.1 List.mem_cons_self
    have hb : b ∈ a :: r := hp.mem_iff.2 List.mem_cons_self
    obtain ⟨p1, q1⟩ := List.pairwise_cons.1 h1
    obtain ⟨p2, q2⟩ := List.pairwise_cons.1 h2
    have e : a = b := by
      rcases List.mem_cons.1 ha with e | ha
      · exact e
      · rcases List.mem_cons.1 hb with e | hb'
        · exact e.symm
        · exact key_eq hn List.mem_cons_self hb (kLt_or (p2 a ha) (p1 b hb'))
    subst e
    rw [List.map_cons, List.nodup_cons] at hn
    rw [srtK_uniq (List.Perm.cons_inv hp) q1 q2 hn.2]
theorem liveL_map (l : List Ev) : liveL (l.map fun e => (⟨e, false⟩ : Pa)) = l := by
  induction l with
  | nil => rfl
  | cons e r ih =>
    show (if false = true then _ else e :: liveL (r.map fun e => (⟨e, false⟩ : Pa))) = _
    rw [if_neg (by decide), ih]
/-- An act of a script. -/
structure Ac where
  d : Int
  kind : Int
  seq : Int
  back : Int
  amt : Int
  by_ : Int
  raw : Bool
@[reducible] def acR : Rp Ac := ⟨7, Unit, fun x _ => [.int .u8 x.d, .int .u8 x.kind, .int .u8 x.seq, .int .i8 x.back, .int .u32 x.amt, .int .u8 x.by_, .bool x.raw], fun x _ => inK .u8 x.kind ∧ inK .u32 x.amt ∧ inK .u8 x.by_, fun _ _ => [], fun _ _ => rfl⟩
theorem Hp.clApp {B : Base} {S : List Asn} {F : List Fact} {w : World} (H : Hp B S F w) {α : Type} {r : Rp α} {c1 c2 : List Value} {x1 x2 : List α} [h1 : InF F (Cl r c1 x1)] [h2 : InF F (Cl r c2 x2)] : Hp B S (Cl r (c1 ++ c2) (x1 ++ x2) :: F) w := H.facts fun I ha f hf => by
  rcases List.mem_cons.1 hf with rfl | hf
  · obtain ⟨a1, a2⟩ := ha _ h1.mem
    obtain ⟨b1, b2⟩ := ha _ h2.mem
    refine ⟨by rw [List.length_append, List.length_append, a1, b1, Nat.add_mul], fun i x hx => ?_⟩
    rcases Nat.lt_or_ge i x1.length with hi | hi
    · rw [List.getElem?_append_left hi] at hx
      obtain ⟨p, g1, g2, g3⟩ := a2 i x hx
      refine ⟨p, g1, ?_, g3⟩
      have hle : i * r.sz + r.sz ≤ c1.length := by
        rw [a1, ← Nat.succ_mul]
        exact Nat.mul_le_mul_right _ hi
      rw [List.drop_append_of_le_length (by omega), List.take_append_of_le_length (by rw [List.length_drop]; omega)]
      exact g2
    · rw [List.getElem?_append_right hi] at hx
      obtain ⟨p, g1, g2, g3⟩ := b2 _ x hx
      refine ⟨p, g1, ?_, g3⟩
      have e : i * r.sz = c1.length + (i - x1.length) * r.sz := by
        rw [a1, ← Nat.add_mul]
        congr 1
        omega
      rw [e, ← List.drop_drop, List.drop_left]
      exact g2
  · exact ha f hf
/-- The events of a script: each has its place for its number. -/
structure EvI (evs : List Ev) : Prop where
  at_ : ∀ (i : Nat) e, evs[i]? = some e → e.seq = (i : Int) ∧ -2147483648 ≤ e.day ∧ e.day ≤ 2147483647
  len : evs.length ≤ 10
theorem EvI.nd {evs : List Ev} (h : EvI evs) : (evs.map Ev.seq).Nodup := by
  rw [List.nodup_iff_pairwise_ne, List.pairwise_map, List.pairwise_iff_getElem]
  intro i j hi hj hij e
  have h1 := (h.at_ i _ (List.getElem?_eq_getElem hi)).1
  have h2 := (h.at_ j _ (List.getElem?_eq_getElem hj)).1
  omega
end Go.Proofs.YtjlfjjgjghdokaaGreatDoor
namespace Go.Proofs.YtjlfjjgjghdokaaGreatDoor
open Go.ChangeShapes Go.WideShapes Go.ChangeAt Go.RowKit Go.Joins Go.Wk
section
variable {H : Type} {enc : TypeId × Value → H} {w : World} {base : Nat} {spare : Nat → Bool} {held : Bool}
instance : Inhabited Ac := ⟨⟨0, 0, 0, 0, 0, 0, false⟩⟩
theorem cell_86 : Tryz.prog.cellsOf 86 = 7 := by kernel_rfl
theorem cell_84 : Tryz.prog.cellsOf 84 = 1 := by kernel_rfl
theorem cell_4 : Tryz.prog.cellsOf 4 = 1 := by kernel_rfl
set_option maxRecDepth 100000 in
theorem trod_ac (n : Nat) (cs : List Value) (x : DataW H × List MemPlace) (h : DataW.trod enc Tryz.prog w base spare held n 86 cs = some x) : ∃ (y : Ac) (p : Unit), acR.ok y p ∧ cs = acR.cells y p ∧ All (acR.facts y p) w (oldB w) := by
  obtain ⟨y0, y1, y2, y3, y4, y5, y6, m, hl, h0, h1, h2, h3, h4, h5, h6⟩ := trod_struct7 Tryz.underlying86 h
  rw [cell_86] at hl
  match cs, hl with
  | [c0, c1, c2, c3, c4, c5, c6], _ =>
    simp only [cell_5, cell_84, cell_23, cell_4, List.drop_zero, List.drop_succ_cons, List.take_succ_cons, List.take_zero] at h0 h1 h2 h3 h4 h5 h6
    obtain ⟨a0, e0, _, w0⟩ := DataW.trod_int Tryz.underlying5 h0
    obtain ⟨a1, e1, _, w1⟩ := DataW.trod_int Tryz.underlying5 h1
    obtain ⟨a2, e2, _, w2⟩ := DataW.trod_int Tryz.underlying5 h2
    obtain ⟨a3, e3, _, w3⟩ := DataW.trod_int Tryz.underlying84 h3
    obtain ⟨a4, e4, _, w4⟩ := DataW.trod_int Tryz.underlying23 h4
    obtain ⟨a5, e5, _, w5⟩ := DataW.trod_int Tryz.underlying5 h5
    obtain ⟨a6, e6, _⟩ := DataW.trod_bool Tryz.underlying4 h6
    simp only [List.cons.injEq, and_true] at e0 e1 e2 e3 e4 e5 e6
    subst e0 e1 e2 e3 e4 e5 e6
    exact ⟨⟨a0, a1, a2, a3, a4, a5, a6⟩, (), ⟨inK_of_wf w1, inK_of_wf w4, inK_of_wf w5⟩, rfl, fun f hf => by cases hf⟩
set_option maxRecDepth 100000 in
theorem open_acs {b0 : Nat} {v : Value} {d : DataW H} {p : List MemPlace} (hv : Value.okWide Tryz.prog w .any b0 78 v) (h : DataW.Trod enc Tryz.prog w base spare held 78 v d p) : ∃ A n c xs, v = .slice A n c ∧ (Sl acR (.slice A n c) xs).holds w (oldB w) :=
  sl_of_trod Tryz.underlying78 cell_86 (by decide) trod_ac h (not_agg Tryz.underlying78 hv)
end
end Go.Proofs.YtjlfjjgjghdokaaGreatDoor
