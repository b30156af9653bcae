/- A day is read of words: the walk. -/
import Derived.Test.YtgbmambkgcjhfaaGreatDoorD23
import Derived.Laws.Strings2
set_option linter.unusedVariables false
namespace Go.Wk
/-- A part of a string. -/
theorem strS_rule {P : Program} {T : Tab} {K : Value → World → Prop} {w : World} (hT : T.Ok P) {t : TypeId} {it : TypeInfo} {s : ByteArray} {k k' : IntKind} {i j : Int} (ht : T t = some ⟨.string, it⟩) (h0 : 0 ≤ i) (h1 : i ≤ j) (h2 : j ≤ s.size) (kk : K (.string (s.extract i.toNat j.toNat)) w) : SliceK P K w t (.string s) (some (.int k i)) (some (.int k' j)) none := by
  refine SliceK.of (v := .string (s.extract i.toNat j.toNat)) (w' := w) ?_ kk
  rw [run_sliceAt_string w t _ _ _ _ (hT t _ ht).1]
  exact run_slice_string w t s k k' i j (hT t _ ht).1 h0 h1 h2
/-- An array's value, built. -/
theorem PureK.build {P : Program} {K : Value → World → Prop} {w : World} {dst : Option Nat} {t ty : TypeId} {pos : String} {after : Array Edge} {guard : Option (Nat × Bool)} {parts : Array (Nat × Operand)} {ρ : Operand → Value} (v : Value) (h : (Instr.build t (parts.map fun (i, x) => (i, ρ x))).run P w = .ok v w) (k : K v w) : PureK P K w ⟨dst, .build t parts, ty, pos, after, guard⟩ ρ :=
  ⟨by
    have := NK_value h k
    exact this⟩
/-- An element of an array in a block. -/
theorem arrIx_rule {P : Program} {T : Tab} {K : Value → World → Prop} {w : World} (hT : T.Ok P) {t e : TypeId} {it : TypeInfo} {de : TD} {n b o sz : Nat} {kd : IntKind} {z : Int} (i : Nat) (hz : z = (i : Int)) (ht : T t = some ⟨.array n e, it⟩) (he : T e = some de) (hsz : de.info.size = sz) (hi : i < n) (k : K (.pointer (some ⟨b, o + i * sz, none⟩)) w) : IdxAddrK P K w t (.pointer (some ⟨b, o, none⟩)) (.int kd z) := by
  subst hz hsz
  have e1 : P.elem t = e := by unfold Program.elem; rw [(hT t _ ht).1]
  have e2 : P.arrayLen t = n := by unfold Program.arrayLen; rw [(hT t _ ht).1]
  have hu : P.underlying t = some (.array (P.arrayLen t) (P.elem t)) := by rw [e1, e2]; exact (hT t _ ht).1
  refine IdxAddrK.of (v := .pointer (some ⟨b, o + i * de.info.size, none⟩)) (w' := w) ?_ k
  have hs : (sizeOf e).run P w = .ok de.info.size w := run_szOf hT he w
  have hu2 := run_und hT ht w
  simp only [Instr.indexAt, asIntOf, Sem.run_bind, Sem.run_pure, Result.andThen_ok, hu2, Instr.sureAddr]
  rw [if_pos ⟨by omega, by omega⟩]
  simp only [Sem.run_bind, hs, Result.andThen_ok, Sem.run_pure, Int.toNat_natCast]
  rw [add_plain]
end Go.Wk
namespace Go.Proofs.YtgbmambkgcjhfaaGreatDoor
open Go Go.Proofs Go.Wk Go.Pl
/-- A parsed number and its error. -/
def NumRd (l : List UInt8) (a : Int × Er) : Prop :=
  match Lib.atoiAll l with
  | .ok v => a = (v, none)
  | _ => a.2.isSome = true
theorem atoiE (l : List UInt8) (hs : l.length ≤ 281474976710656) (w : World) (M I : BS) (H : Hp ⟨w, M, I⟩ [] [LibF] w) :
    Ctr Tryz.prog 89 [.string (strOf l)] w M I adV (NumRd l) (fun _ => []) (fun _ => []) := by
  refine (atoi (strOf l) (by rw [strOf_size]; exact hs) w M I H).imp fun a w' hφ hh => ?_
  rw [strOf_data] at hφ
  unfold NumRd
  cases a with
  | mk v o =>
    cases o with
    | none =>
      refine ⟨(v, none), rfl, ?_, hh⟩
      cases h : Lib.atoiAll l with
      | ok u =>
        rw [h] at hφ
        have e : (v, (none : Option Nat)) = (u, none) := hφ
        show (v, (none : Er)) = (u, none)
        have e2 : v = u := congrArg Prod.fst e
        rw [e2]
      | range => rw [h] at hφ; exact absurd hφ.2 (by simp)
      | _ => rw [h] at hφ; exact absurd hφ.2 (by simp)
    | some N =>
      refine ⟨(v, some (226, .pointer (some ⟨N, 0, none⟩))), rfl, ?_, hh⟩
      cases h : Lib.atoiAll l with
      | ok u => rw [h] at hφ; cases hφ
      | range => rfl
      | _ => rfl
/-- What a reader of days says. -/
def DayRd (s : ByteArray) (a : Int × Er) : Prop :=
  (a.2 = none ∧ DayT a.1 s ∧ dayB a.1 = true) ∨ (a.2.isSome = true ∧ a.1 = 0 ∧ ∀ n, ¬ DayT n s)
@[reducible] def ddV (a : Int × Er) : Value := .tuple #[.int .i32 a.1, erV a.2]
def loD (i : Nat) : Int := if i = 0 then 0 else if i = 1 then 5 else 8
def hiD (i : Nat) : Int := if i = 0 then 4 else if i = 1 then 7 else 10
theorem idxD (i : Nat) (h : i < 3) (w : World) : (Instr.index 167 (.agg #[.int .i64 0, .int .i64 4, .int .i64 5, .int .i64 7, .int .i64 8, .int .i64 10]) (.int .i64 (i : Int))).run Tryz.prog w = .ok (.agg #[.int .i64 (loD i), .int .i64 (hiD i)]) w :=
  match i, h with
  | 0, _ => by kernel_rfl
  | 1, _ => by kernel_rfl
  | 2, _ => by kernel_rfl
theorem set3 (i : Nat) (h : i < 3) (v a b c : Int) : setL [.int .i64 a, .int .i64 b, .int .i64 c] (0 + i * 1) [.int .i64 v] = [.int .i64 (if i = 0 then v else a), .int .i64 (if i = 1 then v else b), .int .i64 (if i = 2 then v else c)] :=
  match i, h with
  | 0, _ => rfl
  | 1, _ => rfl
  | 2, _ => rfl
theorem ble3 {i : Nat} (h : i < 3) : Nat.ble (0 + i * 1 + 1) 3 = true := Nat.ble_eq_true_of_le (by omega)
theorem ext_strOf (s : ByteArray) (a b : Nat) : s.extract a b = strOf ((s.data.toList.drop a).take (b - a)) := by
  rw [← Lib.extract_data, strOf_of]
/-- The part of a day's words that is read at a turn. -/
def dpart (s : ByteArray) (i : Nat) : List UInt8 := (s.data.toList.drop (loD i).toNat).take ((hiD i).toNat - (loD i).toNat)
theorem dpart_ext (s : ByteArray) (i : Nat) : s.extract (loD i).toNat (hiD i).toNat = strOf (dpart s i) := ext_strOf _ _ _
theorem dpart_len (s : ByteArray) (i : Nat) : (dpart s i).length ≤ 10 := by
  unfold dpart
  rw [List.length_take]
  unfold loD hiD
  split
  · simp; omega
  · split <;> simp <;> omega
theorem lohi (i : Nat) : 0 ≤ loD i ∧ loD i ≤ hiD i ∧ hiD i ≤ 10 := by
  unfold loD hiD
  split
  · omega
  · split <;> omega
/-- What stands at a day's words' parts. -/
def PartOk (s : ByteArray) (j : Nat) (x : Int) : Prop := ∀ v, Lib.atoiAll (dpart s j) = .ok v → x = v
theorem dayRead (s : ByteArray) (w : World) (M I : BS) (H : Hp ⟨w, M, I⟩ [] [LibF] w) :
    Ctr Tryz.prog 55 [.string s] w M I ddV (DayRd s) (fun _ => []) (fun _ => []) := by
  refine Exe.of_ev tok Tryz.call55 Tryz.func55 rfl rfl rfl ?_
  refine alloc_as tok H [.int .i64 0, .int .i64 0, .int .i64 0] rfl rfl rfl fun b w1 H1 => ?_
  refine PureK.build (.agg #[.int .i64 0, .int .i64 4]) (by kernel_rfl) ?_
  refine PureK.build (.agg #[.int .i64 5, .int .i64 7]) (by kernel_rfl) ?_
  refine PureK.build (.agg #[.int .i64 8, .int .i64 10]) (by kernel_rfl) ?_
  refine PureK.build (.agg #[.int .i64 0, .int .i64 4, .int .i64 5, .int .i64 7, .int .i64 8, .int .i64 10]) (by kernel_rfl) ?_
  refine loop_rule tok (σ := Nat × Int × Int × Int) 17179861100 (fun s => [(13, .int .i64 (s.1 : Int))]) (fun x w' => x.1 ≤ 3 ∧ (0 < x.1 → s.size = 10) ∧ (0 < x.1 → PartOk s 0 x.2.1) ∧ (1 < x.1 → PartOk s 1 x.2.2.1) ∧ (2 < x.1 → PartOk s 2 x.2.2.2) ∧ Hp ⟨w, M, I⟩ [blk b [.int .i64 x.2.1, .int .i64 x.2.2.1, .int .i64 x.2.2.2] 165] [LibF] w') (fun x => 3 - x.1) (0, 0, 0, 0) rfl rfl ⟨rfl, trivial⟩ ⟨Nat.zero_le _, fun h => absurd h (Nat.not_lt_zero _), fun h => absurd h (Nat.not_lt_zero _), fun h => absurd h (Nat.not_lt_zero _), fun h => absurd h (Nat.not_lt_zero _), Hp.keep H1⟩ ?_
  intro x j w2 hW
  have hx := hW.1
  have hx2 := hW.2.1
  have hp0 := hW.2.2.1
  have hp1 := hW.2.2.2.1
  have hp2 := hW.2.2.2.2.1
  have H2 := hW.2.2.2.2.2
  refine brd (fun hlt => ?_) (fun hge => ?_)
  · have ew : IntKind.i64.wrap ((x.1 : Int) + 1) = ((x.1 + 1 : Nat) : Int) := w64 (by omega) (by omega)
    have hlt3 : x.1 < 3 := by omega
    have hl := lohi x.1
    refine IndexK.of (idxD x.1 hlt3 w2) ?_
    refine alloc_as tok H2 [.int .i64 0, .int .i64 0] rfl rfl rfl fun c w3 H3 => ?_
    refine store_as tok H3 [.int .i64 (loD x.1), .int .i64 (hiD x.1)] rfl rfl rfl rfl rfl fun w4 H4 => ?_
    refine br (fun q => ?_) (fun q => ?_)
    · have q : (!((s.size : Int) == 10)) = true := q
      refine Exists.intro (0, erN 15) (And.intro rfl (And.intro (.inr ⟨rfl, rfl, fun n hn => ?_⟩) (Hp.keep H4)))
      obtain ⟨y, m, d, hd, _, hs⟩ := hn
      rw [hs, strOf_size, dat_length hd] at q
      cases q
    have q : (!((s.size : Int) == 10)) = false := q
    have hs10 : s.size = 10 := by
      have e : ((s.size : Int) == 10) = true := by simpa using q
      have e := eq_of_beq e
      omega
    refine arrIx_rule tok 0 rfl rfl rfl (sz := 1) rfl (by decide) ?_
    refine load_rule tok H4 (v := .int .i64 (loD x.1)) rfl ?_
    refine arrIx_rule tok 1 rfl rfl rfl (sz := 1) rfl (by decide) ?_
    refine load_rule tok H4 (v := .int .i64 (hiD x.1)) rfl ?_
    refine strS_rule tok rfl hl.1 hl.2.1 (by rw [hs10]; exact hl.2.2) ?_
    refine call_rule H4 (fun M I _ h => (dpart_ext s x.1).symm ▸ atoiE (dpart s x.1) (by have := dpart_len s x.1; omega) _ M I h) fun a w5 ha H5 => ?_
    refine arrIx_rule tok x.1 rfl rfl rfl (sz := 1) rfl hlt3 ?_
    refine store_as tok H5 [.int .i64 (if x.1 = 0 then a.1 else x.2.1), .int .i64 (if x.1 = 1 then a.1 else x.2.2.1), .int .i64 (if x.1 = 2 then a.1 else x.2.2.2)] rfl rfl (by show Nat.ble (0 + x.1 * 1 + 1) 3 = true; exact ble3 hlt3) rfl (set3 x.1 hlt3 a.1 x.2.1 x.2.2.1 x.2.2.2) fun w6 H6 => ?_
    have hpa : PartOk s x.1 a.1 := fun v hv => by
      unfold NumRd at ha
      rw [hv] at ha
      exact congrArg Prod.fst ha
    refine Exists.intro (x.1 + 1, if x.1 = 0 then a.1 else x.2.1, if x.1 = 1 then a.1 else x.2.2.1, if x.1 = 2 then a.1 else x.2.2.2) (And.intro ⟨congrArg (Value.int .i64) ew, trivial⟩ (And.intro (by show 3 - (x.1 + 1) < 3 - x.1; omega) ⟨hlt3, fun _ => hs10, fun _ => ?_, fun h => ?_, fun h => ?_, Hp.keep H6⟩))
    · show PartOk s 0 (if x.1 = 0 then a.1 else x.2.1)
      by_cases e : x.1 = 0
      · rw [if_pos e, ← e]; exact hpa
      · rw [if_neg e]; exact hp0 (by omega)
    · have h : 1 < x.1 + 1 := h
      show PartOk s 1 (if x.1 = 1 then a.1 else x.2.2.1)
      by_cases e : x.1 = 1
      · rw [if_pos e, ← e]; exact hpa
      · rw [if_neg e]; exact hp1 (by omega)
    · have h : 2 < x.1 + 1 := h
      show PartOk s 2 (if x.1 = 2 then a.1 else x.2.2.2)
      by_cases e : x.1 = 2
      · rw [if_pos e, ← e]; exact hpa
      · rw [if_neg e]; exact hp2 (by omega)
  · have hx3 : x.1 = 3 := by omega
    have hs10 := hx2 (by omega)
    have hno : ∀ e : Er, e.isSome = true → (∀ y m d, Dat y m d → s = strOf (datL y m d) → False) → DayRd s (0, e) := fun e he h => .inr ⟨he, rfl, fun n hn => by
      obtain ⟨y, m, d, hd, _, hs⟩ := hn
      exact h y m d hd hs⟩
    have hall : ∀ y m d, Dat y m d → s = strOf (datL y m d) → x.2.1 = y ∧ x.2.2.1 = m ∧ x.2.2.2 = d := fun y m d hD hs => by
      have p := datP hD
      have e : s.data.toList = datL y m d := by rw [hs, strOf_data]
      refine ⟨hp0 (by omega) y ?_, hp1 (by omega) m ?_, hp2 (by omega) d ?_⟩
      · show Lib.atoiAll ((s.data.toList.drop 0).take 4) = _
        rw [e, dat_y hD]; exact p.ay
      · show Lib.atoiAll ((s.data.toList.drop 5).take 2) = _
        rw [e, dat_m hD]; exact p.am
      · show Lib.atoiAll ((s.data.toList.drop 8).take 2) = _
        rw [e, dat_d hD]; exact p.ad
    refine arrIx_rule tok 0 rfl rfl rfl (sz := 1) rfl (by decide) ?_
    refine load_rule tok H2 (v := .int .i64 x.2.1) rfl ?_
    refine arrIx_rule tok 1 rfl rfl rfl (sz := 1) rfl (by decide) ?_
    refine load_rule tok H2 (v := .int .i64 x.2.2.1) rfl ?_
    refine arrIx_rule tok 2 rfl rfl rfl (sz := 1) rfl (by decide) ?_
    refine load_rule tok H2 (v := .int .i64 x.2.2.2) rfl ?_
    refine Or.elim (Classical.em (Dat x.2.1 x.2.2.1 x.2.2.2)) (fun hD => ?_) (fun hD => ?_)
    · have hr := num_range hD
      refine call_rule H2 (fun M I _ h => numberD x.2.1 x.2.2.1 x.2.2.2 hD _ M I h) fun _ w3 _ H3 => ?_
      have hdb : dayB (numD x.2.1 x.2.2.1 x.2.2.2) = true := by simp only [dayB, Bool.and_eq_true, decide_eq_true_eq]; omega
      refine call_rule H3 (fun M I _ h => dayText (numD x.2.1 x.2.2.1 x.2.2.2) hdb _ M I h) fun a w4 ha H4 => ?_
      refine br (fun q => ?_) (fun q => ?_)
      · have q : (!eqS (strOf (datL a.1 a.2.1 a.2.2)) s) = true := q
        refine Exists.intro (0, erN 15) (And.intro rfl (And.intro (hno _ rfl fun y m d hd hs => ?_) (Hp.keep H4)))
        obtain ⟨e1, e2, e3⟩ := hall y m d hd hs
        rw [e1, e2, e3] at ha
        obtain ⟨i1, i2, i3⟩ := num_inj ha.1 hd ha.2
        rw [hs, eqS_strOf, i1, i2, i3, decide_eq_true rfl] at q
        cases q
      · have q : (!eqS (strOf (datL a.1 a.2.1 a.2.2)) s) = false := q
        have e : strOf (datL a.1 a.2.1 a.2.2) = s := by
          have h1 : eqS (strOf (datL a.1 a.2.1 a.2.2)) (strOf s.data.toList) = true := by rw [strOf_of]; simpa using q
          rw [eqS_strOf] at h1
          rw [of_decide_eq_true h1, strOf_of]
        exact Exists.intro (numD x.2.1 x.2.2.1 x.2.2.2, none) (And.intro rfl (And.intro (.inl ⟨rfl, ⟨a.1, a.2.1, a.2.2, ha.1, ha.2, e.symm⟩, hdb⟩) (Hp.keep H4)))
    · have hdb : datB x.2.1 x.2.2.1 x.2.2.2 = false := by
        cases h : datB x.2.1 x.2.2.1 x.2.2.2
        · rfl
        · exact absurd (datB_iff.1 h) hD
      refine call_rule H2 (fun M I _ h => numberNo x.2.1 x.2.2.1 x.2.2.2 hdb _ M I h) fun _ w3 _ H3 => ?_
      refine Exists.intro (0, erN 15) (And.intro rfl (And.intro (hno _ rfl fun y m d hd hs => ?_) (Hp.keep H3)))
      obtain ⟨e1, e2, e3⟩ := hall y m d hd hs
      rw [e1, e2, e3] at hD
      exact hD hd
end Go.Proofs.YtgbmambkgcjhfaaGreatDoor
