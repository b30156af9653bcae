/- Terms are read of words: what the readers of words say. -/
import Derived.Test.YtgbmambkgcjhfaaGreatDoorD25
set_option linter.unusedVariables false
namespace Go.Proofs.YtgbmambkgcjhfaaGreatDoor
open Go Go.Proofs Go.Wk Go.Pl
theorem coin_neg {a c : Int} (ha : a < 0) (hc : 0 ≤ c) : coinL c ≠ coinL a := fun e => by
  rw [coinL_pos hc] at e
  unfold coinL at e
  rw [if_pos ha] at e
  cases h : cQ c with
  | nil => exact cQ_ne c h
  | cons x r =>
    have hx := cQ_dig c x (by rw [h]; exact List.mem_cons_self)
    rw [h] at e
    injection e with e1 _
    rw [e1] at hx
    cases hx
theorem CoinRd.of {c : Int} {a : Int × Er} (h0 : 0 ≤ c) (h1 : c ≤ 9223372036854775807) (h : CoinRd (coinL c) a) : a = (c, none) := by
  rcases h with ⟨e1, e2, e3⟩ | ⟨_, _, h⟩
  · have hn : 0 ≤ a.1 := by
      rcases Int.lt_or_le a.1 0 with hl | hl
      · exact absurd e2 (coin_neg hl h0)
      · exact hl
    have e := coin_inj h0 h1 hn e3.2 e2
    cases a
    simp only at e1 e
    rw [e1, e]
  · exact absurd rfl (h c h0 h1)
/-- A parsed number without a sign and its error. -/
def UNumRd (l : List UInt8) (a : Int × Er) : Prop :=
  match Lib.parseUintB 32 l with
  | .ok u => a = ((u : Int), none)
  | _ => a.2.isSome = true
@[reducible] def auV (a : Int × Er) : Value := .tuple #[.int .u64 a.1, erV a.2]
theorem parseUE (l : List UInt8) (hs : l.length ≤ 281474976710656) (w : World) (M I : BS) (H : Hp ⟨w, M, I⟩ [] [LibF] w) :
    Ctr Tryz.prog 52 [.string (strOf l), .int .i64 10, .int .i64 32] w M I auV (UNumRd l) (fun _ => []) (fun _ => []) := by
  refine (parseU32 (strOf l) (by rw [strOf_size]; exact hs) w M I H).imp fun a w' hφ hh => ?_
  rw [strOf_data] at hφ
  unfold UNumRd
  cases a with
  | mk v o =>
    cases o with
    | none =>
      refine ⟨((v : Int), none), rfl, ?_, hh⟩
      cases h : Lib.parseUintB 32 l with
      | ok u =>
        rw [h] at hφ
        have e : (v, (none : Option Nat)) = (u, none) := hφ
        have e2 : v = u := congrArg Prod.fst e
        show ((v : Int), (none : Er)) = ((u : Int), none)
        rw [e2]
      | range => rw [h] at hφ; exact absurd hφ.2 (by simp)
      | _ => rw [h] at hφ; exact absurd hφ.2 (by simp)
    | some N =>
      refine ⟨((v : Int), some (226, .pointer (some ⟨N, 0, none⟩))), rfl, ?_, hh⟩
      cases h : Lib.parseUintB 32 l with
      | ok u => rw [h] at hφ; cases hφ
      | range => rfl
      | _ => rfl
theorem atoi_in {l : List UInt8} {v : Int} (h : Lib.atoiAll l = .ok v) : inK .i64 v := by
  cases l with
  | nil => cases h
  | cons c r =>
    unfold Lib.atoiAll at h
    simp only at h
    split at h
    · cases h
    · cases h
    · split at h
      · cases h
      · split at h
        · cases h
        · injection h with h
          rw [← h]
          split
          · exact ⟨by show (-9223372036854775808 : Int) ≤ _; omega, by show _ ≤ (9223372036854775807 : Int); omega⟩
          · exact ⟨by show (-9223372036854775808 : Int) ≤ _; omega, by show _ ≤ (9223372036854775807 : Int); omega⟩
theorem parseM_le : ∀ (l : List UInt8) (M acc u : Nat), acc ≤ M → Lib.parseUintM M acc l = .ok u → u ≤ M
  | [], M, acc, u, h, e => by injection e with e; omega
  | c :: r, M, acc, u, h, e => by
    rw [Lib.parseUintM] at e
    split at e
    · split at e
      · cases e
      · split at e
        · cases e
        · exact parseM_le r M _ u (by omega) e
    · cases e
theorem u32_in {l : List UInt8} {u : Nat} (h : Lib.parseUintB 32 l = .ok u) : u ≤ 4294967295 := by
  unfold Lib.parseUintB at h
  split at h
  · cases h
  · exact parseM_le l _ 0 u (by omega) h
theorem NumRd.ok {l : List UInt8} {a : Int × Er} (h : NumRd l a) (he : a.2 = none) : Lib.atoiAll l = .ok a.1 := by
  unfold NumRd at h
  cases hq : Lib.atoiAll l with
  | ok v => rw [hq] at h; have h : a = (v, none) := h; rw [h]
  | range => rw [hq] at h; have h : a.2.isSome = true := h; rw [he] at h; cases h
  | _ => rw [hq] at h; have h : a.2.isSome = true := h; rw [he] at h; cases h
theorem NumRd.of {n : Int} {a : Int × Er} (h0 : 0 ≤ n) (h1 : n < 9223372036854775808) (h : NumRd (Lib.itoa n) a) : a = (n, none) := by
  unfold NumRd at h
  rw [itoa_nat h0, atoi_num _ (by omega)] at h
  have h : a = ((n.toNat : Int), none) := h
  rw [h]
  congr 1
  omega
theorem UNumRd.of {n : Int} {a : Int × Er} (h0 : 0 ≤ n) (h1 : n < 4294967296) (h : UNumRd (Lib.itoa n) a) : a = (n, none) := by
  unfold UNumRd at h
  rw [itoa_nat h0, u32_num _ (by omega)] at h
  have h : a = ((n.toNat : Int), none) := h
  rw [h]
  congr 1
  omega
theorem UNumRd.ok {l : List UInt8} {a : Int × Er} (h : UNumRd l a) (he : a.2 = none) : 0 ≤ a.1 ∧ a.1 ≤ 4294967295 := by
  unfold UNumRd at h
  cases hq : Lib.parseUintB 32 l with
  | ok v => rw [hq] at h; have h : a = ((v : Int), none) := h; rw [h]; have := u32_in hq; exact ⟨by simp, by simp; omega⟩
  | range => rw [hq] at h; have h : a.2.isSome = true := h; rw [he] at h; cases h
  | _ => rw [hq] at h; have h : a.2.isSome = true := h; rw [he] at h; cases h
theorem DayRd.of {n : Int} {s : ByteArray} {a : Int × Er} (hn : DayT n s) (h : DayRd s a) : a = (n, none) := by
  rcases h with ⟨e1, e2, _⟩ | ⟨_, _, h⟩
  · have e := e2.inj hn
    cases a
    simp only at e1 e
    rw [e1, e]
  · exact absurd hn (h n)
/-- What the readers say of eight words. -/
structure RdW (l0 l1 l2 l3 l4 l5 l6 l7 : List UInt8) (a1 a2 a4 a5 a6 a7 : Int × Er) : Prop where
  h1 : CoinRd l1 a1
  h2 : UNumRd l2 a2
  h4 : NumRd l4 a4
  h5 : DayRd (strOf l5) a5
  h6 : CoinRd l6 a6
  h7 : NumRd l7 a7
def rdT (l0 l3 : List UInt8) (a1 a2 a4 a5 a6 a7 : Int × Er) : Tm := ⟨lvKind (strOf l0), a1.1, IntKind.u32.wrap a2.1, spBasis (strOf l3), a4.1, a5.1, a6.1, a7.1⟩
theorem eqS_data (a b : ByteArray) : eqS a b = decide (a.data.toList = b.data.toList) := by
  unfold eqS
  rw [Lib.toList_data, Lib.toList_data]
  exact (Bool.beq_eq_decide_eq _ _)
theorem lvKind_of {k : Int} (h : k = 1 ∨ k = 2) : lvKind (strOf (bsL (lvName k))) = k := by
  rw [← lv_strOf]
  unfold lvKind
  simp only [eqS_data]
  rcases h with rfl | rfl <;> decide
theorem spBasis_of {k : Int} (h : k = 1 ∨ k = 2) : spBasis (strOf (bsL (spName k))) = k := by
  rw [← sp_strOf]
  unfold spBasis
  simp only [eqS_data]
  rcases h with rfl | rfl <;> decide
theorem rd_of {t : Tm} (ok : TmOk t) (hin : TmIn t) {y m d : Int} (hD : Dat y m d) (hn : numD y m d = t.start) {l0 l1 l2 l3 l4 l5 l6 l7 : List UInt8} {a1 a2 a4 a5 a6 a7 : Int × Er}
    (h : RdW l0 l1 l2 l3 l4 l5 l6 l7 a1 a2 a4 a5 a6 a7) (e : [l0, l1, l2, l3, l4, l5, l6, l7] = tmWords t (datL y m d)) :
    a1.2 = none ∧ a2.2 = none ∧ a4.2 = none ∧ a5.2 = none ∧ a6.2 = none ∧ a7.2 = none ∧ rdT l0 l3 a1 a2 a4 a5 a6 a7 = t := by
  unfold tmWords at e
  simp only [List.cons.injEq, and_true] at e
  obtain ⟨e0, e1, e2, e3, e4, e5, e6, e7⟩ := e
  subst e0 e1 e2 e3 e4 e5 e6 e7
  have b1 := ok.prin
  have b2 := ok.months
  have b3 := ok.fee
  have b4 := ok.grace
  have b5 := ok.parts
  have b6 : 0 ≤ t.parts := hin.parts.1
  have r1 := CoinRd.of (by omega) (by omega) h.h1
  have r2 := UNumRd.of b6 (by omega) h.h2
  have r4 := NumRd.of (by omega) (by omega) h.h4
  have r5 := DayRd.of ⟨y, m, d, hD, hn, rfl⟩ h.h5
  have r6 := CoinRd.of (by omega) (by omega) h.h6
  have r7 := NumRd.of (by omega) (by omega) h.h7
  rw [r1, r2, r4, r5, r6, r7]
  refine ⟨rfl, rfl, rfl, rfl, rfl, rfl, ?_⟩
  unfold rdT
  rw [lvKind_of ok.kind, spBasis_of ok.basis]
  have hw : IntKind.u32.wrap t.parts = t.parts := wrap_id hin.parts
  simp only [hw]
theorem lvKind_in (s : ByteArray) : inK .u8 (lvKind s) := by
  unfold lvKind
  split
  · exact ⟨by decide, by decide⟩
  · split <;> exact ⟨by decide, by decide⟩
theorem spBasis_in (s : ByteArray) : inK .u8 (spBasis s) := by
  unfold spBasis
  split
  · exact ⟨by decide, by decide⟩
  · split <;> exact ⟨by decide, by decide⟩
theorem rd_in {l0 l1 l2 l3 l4 l5 l6 l7 : List UInt8} {a1 a2 a4 a5 a6 a7 : Int × Er} (h : RdW l0 l1 l2 l3 l4 l5 l6 l7 a1 a2 a4 a5 a6 a7)
    (n1 : a1.2 = none) (n4 : a4.2 = none) (n5 : a5.2 = none) (n6 : a6.2 = none) (n7 : a7.2 = none) : TmIn (rdT l0 l3 a1 a2 a4 a5 a6 a7) := by
  have c1 : ∀ (l : List UInt8) (a : Int × Er), CoinRd l a → a.2 = none → inK .i64 a.1 := fun l a h hn => by
    rcases h with ⟨_, _, e3⟩ | ⟨e, _, _⟩
    · exact e3
    · rw [hn] at e; cases e
  refine ⟨lvKind_in _, c1 _ _ h.h1 n1, wrap_in _ _, spBasis_in _, atoi_in (h.h4.ok n4), ?_, c1 _ _ h.h6 n6, atoi_in (h.h7.ok n7)⟩
  rcases h.h5 with ⟨_, _, e3⟩ | ⟨e, _, _⟩
  · simp only [dayB, Bool.and_eq_true, decide_eq_true_eq] at e3
    exact ⟨by show (-2147483648 : Int) ≤ a5.1; omega, by show a5.1 ≤ (2147483647 : Int); omega⟩
  · rw [n5] at e; cases e
/-- The pieces are no longer than the whole. -/
theorem splitK_le (sep : List UInt8) : ∀ (k : Nat) (s x : List UInt8), x ∈ Lib.splitK sep 0 k s → x.length ≤ s.length
  | 0, s, x, h => by rw [List.mem_singleton.1 h]; exact Nat.le_refl _
  | k + 1, s, x, h => by
    unfold Lib.splitK at h
    split at h
    · rw [List.mem_singleton.1 h]; exact Nat.le_refl _
    · rcases List.mem_cons.1 h with h | h
      · rw [h, List.length_take]; omega
      · have := splitK_le sep k _ x h
        rw [List.length_drop] at this
        omega
theorem split8 (l : List UInt8) (hs : l.length < 4294967281) (l0 l1 l2 l3 l4 l5 l6 l7 : List UInt8) (h : Lib.splitK [32] 0 (Lib.count l [32]) l = [l0, l1, l2, l3, l4, l5, l6, l7]) (h7 : Lib.count l [32] = 7) (w : World) (M I : BS) (H : Hp ⟨w, M, I⟩ [] [LibF] w) :
    Ctr Tryz.prog 51 [.string (strOf l), .string ⟨#[32]⟩] w M I (fun g : Nat => .slice (some ⟨g, 0, none⟩) 8 8) (fun _ => True) (fun g => [blk g [.string (strOf l0), .string (strOf l1), .string (strOf l2), .string (strOf l3), .string (strOf l4), .string (strOf l5), .string (strOf l6), .string (strOf l7)] 9]) (fun _ => []) := by
  have hd : Lib.countB (strOf l) ⟨#[32]⟩ = 7 := by
    show Lib.count (strOf l).data.toList [32] = 7
    rw [strOf_data]; exact h7
  have hb : Lib.splitB ⟨#[32]⟩ 0 7 (strOf l) = [strOf l0, strOf l1, strOf l2, strOf l3, strOf l4, strOf l5, strOf l6, strOf l7] := by
    have e := Lib.splitB_data ⟨#[32]⟩ 0 7 (strOf l)
    rw [strOf_data] at e
    have e2 : Lib.splitK [32] 0 7 l = [l0, l1, l2, l3, l4, l5, l6, l7] := by rw [← h, h7]
    have e3 := e.trans e2
    have e4 := congrArg (List.map strOf) e3
    rw [List.map_map] at e4
    have e5 : (strOf ∘ fun x : ByteArray => x.data.toList) = id := by funext x; exact strOf_of x
    rw [e5, List.map_id] at e4
    exact e4
  have hc := splitS (strOf l) ⟨#[32]⟩ (by rw [strOf_size]; exact hs) (by decide) w M I H
  rw [hd, hb] at hc
  exact hc
theorem splitN (l : List UInt8) (hs : l.length < 4294967281) (n : Nat) (hn : Lib.count l [32] = n) (w : World) (M I : BS) (H : Hp ⟨w, M, I⟩ [] [LibF] w) :
    Ctr Tryz.prog 51 [.string (strOf l), .string ⟨#[32]⟩] w M I (fun g : Nat => .slice (some ⟨g, 0, none⟩) (n + 1) (n + 1)) (fun _ => True) (fun _ => []) (fun _ => []) := by
  have hd : Lib.countB (strOf l) ⟨#[32]⟩ = n := by
    show Lib.count (strOf l).data.toList [32] = n
    rw [strOf_data]; exact hn
  have hc := splitS (strOf l) ⟨#[32]⟩ (by rw [strOf_size]; exact hs) (by decide) w M I H
  rw [hd] at hc
  exact hc.imp fun a w' hφ hh => ⟨a, rfl, trivial, hh.dropAll⟩
theorem joinE0 (A : Option Addr) (n c : Nat) (xs : List Er) (hxn : xs.length ≤ 100) (h0 : cntE xs = 0) (w : World) (M I : BS) (H : Hp ⟨w, M, I⟩ [] [Sl errR (.slice A n c) xs] w) :
    Ctr Tryz.prog 67 [.slice A n c] w M I (fun _ : Unit => .nilIface) (fun _ => True) (fun _ => []) (fun _ => []) :=
  (joinAny A n c xs hxn w M I H).imp fun a w' hφ hh => ⟨(), by rw [hφ.2 h0]; rfl, trivial, hh⟩
theorem joinE1 (A : Option Addr) (n c : Nat) (xs : List Er) (hxn : xs.length ≤ 100) (h0 : cntE xs ≠ 0) (w : World) (M I : BS) (H : Hp ⟨w, M, I⟩ [] [Sl errR (.slice A n c) xs] w) :
    Ctr Tryz.prog 67 [.slice A n c] w M I (fun b : Nat => .iface 197 (.pointer (some ⟨b, 0, none⟩))) (fun _ => True) (fun _ => []) (fun _ => []) :=
  (joinAny A n c xs hxn w M I H).imp fun a w' hφ hh => by
    cases a with
    | none => exact absurd (hφ.1 rfl) h0
    | some b => exact ⟨b, rfl, trivial, hh⟩
theorem erV_cells (x : Er) : (erV x).cells.toList = [erV x] := by cases x <;> rfl
theorem seq6 (x0 x1 x2 x3 x4 x5 : Er) : seqParts 1 0 [(0, erV x0), (1, erV x1), (2, erV x2), (3, erV x3), (4, erV x4), (5, erV x5)] = some [erV x0, erV x1, erV x2, erV x3, erV x4, erV x5] := by
  simp only [seqParts, erV_cells]
  rfl
end Go.Proofs.YtgbmambkgcjhfaaGreatDoor
