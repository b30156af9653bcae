/- The document's example of terms: the walk. -/
import Derived.Test.YtgbmambkgcjhfaaGreatDoorD27
set_option linter.unusedVariables false
namespace Go.Wk
/-- A field of an element that is known. -/
theorem pt_ld {P : Program} {T : Tab} {K : Value → World → Prop} {w : World} {B : Base} {S : List Asn} {F : List Fact} (hT : T.Ok P) (H : Hp B S F w) {b o f off : Nat} {α : Type} {r : Rp α} {x : α} {t : TypeId} (v : Value) [hp : InPtr F b o r x] (hoff : off = o + f)
    (hv : ∀ p, r.ok x p → ldV (T t) (r.cells x p) f = some v) (k : K v w) : LoadK P K w t (.pointer (some ⟨b, off, none⟩)) := by
  obtain ⟨I, fp, _, ha, _⟩ := H.ex
  obtain ⟨_, p, hok, hc, _⟩ := ha _ hp.mem
  subst hoff
  exact (hc.of_ld hT (hv p hok)).load k
end Go.Wk
namespace Go.Proofs.YtgbmambkgcjhfaaGreatDoor
open Go Go.Proofs Go.Wk Go.Pl
def awL : List UInt8 := [108, 101, 118, 101, 108, 32, 49, 50, 48, 48, 46, 48, 48, 32, 54, 48, 48, 48, 48, 32, 116, 104, 105, 114, 116, 121, 32, 49, 50, 32, 50, 48, 50, 52, 45, 48, 49, 45, 51, 49, 32, 49, 53, 46, 48, 48, 32, 49, 48]
def awT : Tm := ⟨1, 120000, 60000, 2, 12, numD 2024 1 31, 1500, 10⟩
theorem awD : Dat 2024 1 31 := datB_iff.1 (by decide)
theorem awD2 : Dat 2024 2 29 := datB_iff.1 (by decide)
theorem awOk : TmOk awT := ⟨.inl rfl, by decide, by decide, .inr rfl, by decide, by decide, by decide, by decide⟩
theorem awIn : TmIn awT := ⟨⟨by decide, by decide⟩, ⟨by decide, by decide⟩, ⟨by decide, by decide⟩, ⟨by decide, by decide⟩, ⟨by decide, by decide⟩, ⟨by decide, by decide⟩, ⟨by decide, by decide⟩, ⟨by decide, by decide⟩⟩
theorem awDat (a b c : List UInt8) : datL 2024 1 31 = [50, 48, 50, 52, 45, 48, 49, 45, 51, 49] ∧ datL 2024 2 29 = [50, 48, 50, 52, 45, 48, 50, 45, 50, 57] := by
  constructor
  · simp [datL, padL, Lib.itoa, Lib.decDigits]
  · simp [datL, padL, Lib.itoa, Lib.decDigits]
theorem awTxt : TmT awT (strOf awL) := by
  refine ⟨2024, 1, 31, awD, rfl, ?_⟩
  congr 1
  have e1 : bsL (lvName awT.kind) = [108, 101, 118, 101, 108] := by decide
  have e2 : coinL awT.prin = [49, 50, 48, 48, 46, 48, 48] := by simp [awT, coinL, Lib.decDigits]
  have e3 : Lib.itoa awT.parts = [54, 48, 48, 48, 48] := by simp [awT, Lib.itoa, Lib.decDigits]
  have e4 : bsL (spName awT.basis) = [116, 104, 105, 114, 116, 121] := by decide
  have e5 : Lib.itoa awT.months = [49, 50] := by simp [awT, Lib.itoa, Lib.decDigits]
  have e6 := (awDat [] [] []).1
  have e7 : coinL awT.fee = [49, 53, 46, 48, 48] := by simp [awT, coinL, Lib.decDigits]
  have e8 : Lib.itoa awT.grace = [49, 48] := by simp [awT, Lib.itoa, Lib.decDigits]
  unfold tmWords
  rw [e1, e2, e3, e4, e5, e6, e7, e8]
  decide
theorem awRead (w : World) (M I : BS) (hM : ∀ b, ¬ M b) (H : Hp ⟨w, M, I⟩ [] [LibF] w) :
    Ctr Tryz.prog 37 [.string (strOf awL)] w M I (fun _ : Unit => .tuple #[tmV awT, .nilIface]) (fun _ => True) (fun _ => []) (fun _ => []) :=
  (tmRead awL (by decide) w M I hM H).imp fun a w' hφ hh => by
    rcases hφ with ⟨h1, h2, h3, h4⟩ | ⟨_, _, h3⟩
    · have e : a.1 = awT := TmT.inj h2 h3.parts.1 awOk awIn.parts.1 h4 awTxt
      exact ⟨(), by unfold teV; rw [h1, e]; rfl, trivial, hh⟩
    · exact absurd awTxt (h3 awT awOk awIn)
theorem awDay {d : Int} (h : rollR [] awT.start 1 (some d)) : d = numD 2024 2 29 := by
  obtain ⟨p, h1, h2⟩ := h
  have hp : plainR awT.start 1 (some (numD 2024 2 29)) := ⟨2024, 1, 31, awD, rfl, by decide⟩
  have e := plainR_one h1 hp
  subst e
  have hn : nextR [] (numD 2024 2 29) (some (numD 2024 2 29)) := ⟨Int.le_refl _, by decide, fun k a b => by omega⟩
  have := nextR_one h2 hn
  injection this
theorem awDayText (w : World) (M I : BS) (H : Hp ⟨w, M, I⟩ [] [LibF] w) :
    Ctr Tryz.prog 48 [.int .i32 (numD 2024 2 29)] w M I (fun _ : Unit => .string (strOf [50, 48, 50, 52, 45, 48, 50, 45, 50, 57])) (fun _ => True) (fun _ => []) (fun _ => []) :=
  (dayText (numD 2024 2 29) (by decide) w M I H).imp fun a w' hφ hh => by
    obtain ⟨e1, e2, e3⟩ := num_inj hφ.1 awD2 hφ.2
    exact ⟨(), by rw [e1, e2, e3, (awDat [] [] []).2], trivial, hh⟩
theorem awake16 (w : World) (M I : BS) (hM : ∀ b, ¬ M b) (H : Hp ⟨w, M, I⟩ [] [LibF] w) :
    Ctr Tryz.prog 23 [] w M I (fun _ : Unit => .bool true) (fun _ => True) (fun _ => []) (fun _ => []) := by
  refine Exe.of_ev tok Tryz.call23 Tryz.func23 rfl rfl rfl ?_
  refine call_rule H (fun M I h0 h => awRead _ M I (h0 rfl) h) fun _ w1 _ H1 => ?_
  refine alloc_as tok H1 (tmC tm0) rfl rfl rfl fun b w2 H2 => ?_
  refine store_as tok H2 (tmC awT) rfl rfl rfl rfl rfl fun w3 H3 => ?_
  refine load_rule tok H3 (v := tmV awT) rfl ?_
  have H4 : Hp ⟨w, M, I⟩ [blk b (tmC awT) 28] [Sl dayR (.slice none 0 0) [], LibF] w3 := Hp.keep (Hp.slNil dayR H3)
  refine call_rule H4 (fun M I h0 h => dues awT awIn none 0 0 [] (tmB_iff.2 awOk) (by decide) _ M I (h0 rfl) h) fun a w4 ha H5 => ?_
  obtain ⟨hn, hc, hc2⟩ := H5.sll (A := a.1.A) (n := a.1.n) (c := a.1.c)
  have hlen : a.2.length = 12 := ha.len
  have hn12 : a.1.n = 12 := by omega
  refine br (fun q => ?_) (fun q => ?_)
  · refine idx_rule tok H5 rfl rfl rfl (by decide) (by omega) fun eb eo x hx H6 => ?_
    have hd : x.1 = numD 2024 2 29 := by
      obtain ⟨day, s, r1, _, r3⟩ := ha.at_ 0 (by decide)
      have hx' : a.2[0]? = some x := hx
      rw [hx'] at r3
      rw [Option.some.inj r3]
      exact awDay r1
    refine pt_ld tok H6 (f := 0) (.int .i32 (numD 2024 2 29)) rfl (fun _ _ => by rw [← hd]; rfl) ?_
    refine call_rule H6 (fun M I h0 h => awDayText _ M I h) fun _ w5 _ H7 => ?_
    refine Exists.intro () (And.intro (congrArg Value.bool ?_) (And.intro trivial (Hp.keep H7)))
    show eqS (strOf [50, 48, 50, 52, 45, 48, 50, 45, 50, 57]) (strOf [50, 48, 50, 52, 45, 48, 50, 45, 50, 57]) = true
    rw [eqS_strOf]
    rfl
  · have q : ((a.1.n : Int) == 12) = false := q
    rw [hn12] at q
    cases q
end Go.Proofs.YtgbmambkgcjhfaaGreatDoor
