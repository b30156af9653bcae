/- The bytes of terms: the walk; bytes tell the terms. Printed by gen30.py. -/
import Derived.Test.YtgbmambkgcjhfaaGreatDoorG6
set_option linter.unusedVariables false
namespace Go.Proofs.YtgbmambkgcjhfaaGreatDoor
open Go Go.Proofs Go.Wk Go.Pl
def tmBytes (t : Tm) : List Nat := numB t.kind.toNat 0 ++ numB t.prin.toNat 0 ++ numB t.parts.toNat 0 ++ numB t.basis.toNat 0 ++ numB t.months.toNat 0 ++ numB t.start.toNat 0 ++ numB t.fee.toNat 0 ++ numB t.grace.toNat 0
theorem doneE (q : Nat) (A : Option Addr) (ad : Addr) (e : A = some ad) (n c : Nat) (bs : List Nat) (hn : n ≤ 1000000) (w : World) (M I : BS) (H : Hp ⟨w, M, I⟩ [blk q [.slice A n c] 93] [Sl byteR (.slice A n c) bs] w) :
    Ctr Tryz.prog 45 [.pointer (some ⟨q, 0, none⟩)] w M I (fun a : SV => .slice a.A a.n a.c) (fun _ => True) (fun _ => []) (fun a => [Sl byteR (.slice a.A a.n a.c) bs]) := by
  subst e; exact done_ q ad n c bs hn w M I H
/-- Numbers that fit. -/
structure TmFit (t : Tm) : Prop where
  kind : 0 ≤ t.kind ∧ t.kind < 18446744073709551616
  prin : 0 ≤ t.prin ∧ t.prin < 18446744073709551616
  parts : 0 ≤ t.parts ∧ t.parts < 18446744073709551616
  basis : 0 ≤ t.basis ∧ t.basis < 18446744073709551616
  months : 0 ≤ t.months ∧ t.months < 18446744073709551616
  start : 0 ≤ t.start ∧ t.start < 18446744073709551616
  fee : 0 ≤ t.fee ∧ t.fee < 18446744073709551616
  grace : 0 ≤ t.grace ∧ t.grace < 18446744073709551616
theorem tm_fit {t : Tm} (ok : TmOk t) (hin : TmIn t) : TmFit t := by
  have b1 := ok.prin
  have b2 := ok.months
  have b3 := ok.start
  have b4 := ok.fee
  have b5 := ok.grace
  have b6 : 0 ≤ t.parts := hin.parts.1
  have b7 := ok.parts
  have b8 : 0 ≤ t.kind ∧ t.kind ≤ 255 := hin.kind
  have b9 : 0 ≤ t.basis ∧ t.basis ≤ 255 := hin.basis
  exact ⟨by omega, by omega, by omega, by omega, by omega, by omega, by omega, by omega⟩
theorem tmBytes_lt {t : Tm} (h : TmFit t) : ∀ x, x ∈ tmBytes t → x < 256 := by
  intro y hy
  unfold tmBytes at hy
  simp only [List.mem_append] at hy
  rcases hy with ((((((hy | hy) | hy) | hy) | hy) | hy) | hy) | hy
  · have := h.kind; exact numB_lt (by omega) (by omega) y hy
  · have := h.prin; exact numB_lt (by omega) (by omega) y hy
  · have := h.parts; exact numB_lt (by omega) (by omega) y hy
  · have := h.basis; exact numB_lt (by omega) (by omega) y hy
  · have := h.months; exact numB_lt (by omega) (by omega) y hy
  · have := h.start; exact numB_lt (by omega) (by omega) y hy
  · have := h.fee; exact numB_lt (by omega) (by omega) y hy
  · have := h.grace; exact numB_lt (by omega) (by omega) y hy
theorem tmBytes_len {t : Tm} (h : TmFit t) : (tmBytes t).length ≤ 72 ∧ 0 < (tmBytes t).length := by
  unfold tmBytes
  simp only [List.length_append]
  have n0 := numB_len (n := t.kind.toNat) (m := 0) (by have := h.kind; omega)
  have n1 := numB_len (n := t.prin.toNat) (m := 0) (by have := h.prin; omega)
  have n2 := numB_len (n := t.parts.toNat) (m := 0) (by have := h.parts; omega)
  have n3 := numB_len (n := t.basis.toNat) (m := 0) (by have := h.basis; omega)
  have n4 := numB_len (n := t.months.toNat) (m := 0) (by have := h.months; omega)
  have n5 := numB_len (n := t.start.toNat) (m := 0) (by have := h.start; omega)
  have n6 := numB_len (n := t.fee.toNat) (m := 0) (by have := h.fee; omega)
  have n7 := numB_len (n := t.grace.toNat) (m := 0) (by have := h.grace; omega)
  have hp : 0 < (numB t.grace.toNat 0).length := by simp only [numB, List.length_cons]; omega
  omega
theorem numI_inj {a b : Int} {r s : List Nat} (ha : 0 ≤ a ∧ a < 18446744073709551616) (hb : 0 ≤ b ∧ b < 18446744073709551616) (h : numB a.toNat 0 ++ r = numB b.toNat 0 ++ s) : a = b ∧ r = s := by
  obtain ⟨h1, _, h2⟩ := numB_inj (by omega) (by omega) (.inl rfl) (.inl rfl) h
  exact ⟨by omega, h2⟩
theorem tmBytes_inj {t u : Tm} (h : TmFit t) (k : TmFit u) (e : tmBytes t = tmBytes u) : t = u := by
  unfold tmBytes at e
  simp only [List.append_assoc] at e
  obtain ⟨e0, e⟩ := numI_inj h.kind k.kind e
  obtain ⟨e1, e⟩ := numI_inj h.prin k.prin e
  obtain ⟨e2, e⟩ := numI_inj h.parts k.parts e
  obtain ⟨e3, e⟩ := numI_inj h.basis k.basis e
  obtain ⟨e4, e⟩ := numI_inj h.months k.months e
  obtain ⟨e5, e⟩ := numI_inj h.start k.start e
  obtain ⟨e6, e⟩ := numI_inj h.fee k.fee e
  obtain ⟨e7, _⟩ := numI_inj (r := []) (s := []) h.grace k.grace (by rw [List.append_nil, List.append_nil]; exact e)
  cases t; cases u
  simp only at e0 e1 e2 e3 e4 e5 e6 e7
  subst e0 e1 e2 e3 e4 e5 e6 e7
  rfl
set_option maxHeartbeats 4000000 in
set_option maxRecDepth 20000 in
theorem tmBytesW (t : Tm) (hin : TmIn t) (ht : tmB t = true) (w : World) (M I : BS) (hM : ∀ b, ¬ M b) (H : Hp ⟨w, M, I⟩ [] [] w) :
    Ctr Tryz.prog 29 [tmV t] w M I (fun a : SV => .slice a.A a.n a.c) (fun _ => True) (fun _ => []) (fun a => [Sl byteR (.slice a.A a.n a.c) (tmBytes t)]) := by
  have ok := tmB_iff.1 ht
  have hf := tm_fit ok hin
  have hlen := tmBytes_len hf
  have hlt := tmBytes_lt hf
  have f0 := hf.kind
  have e0 := u64_of (v := t.kind) f0.1 f0.2
  have n0 := numB_len (n := t.kind.toNat) (m := 0) (by omega)
  have f1 := hf.prin
  have e1 := u64_of (v := t.prin) f1.1 f1.2
  have n1 := numB_len (n := t.prin.toNat) (m := 0) (by omega)
  have f2 := hf.parts
  have e2 := u64_of (v := t.parts) f2.1 f2.2
  have n2 := numB_len (n := t.parts.toNat) (m := 0) (by omega)
  have f3 := hf.basis
  have e3 := u64_of (v := t.basis) f3.1 f3.2
  have n3 := numB_len (n := t.basis.toNat) (m := 0) (by omega)
  have f4 := hf.months
  have e4 := u64_of (v := t.months) f4.1 f4.2
  have n4 := numB_len (n := t.months.toNat) (m := 0) (by omega)
  have f5 := hf.start
  have e5 := u64_of (v := t.start) f5.1 f5.2
  have n5 := numB_len (n := t.start.toNat) (m := 0) (by omega)
  have f6 := hf.fee
  have e6 := u64_of (v := t.fee) f6.1 f6.2
  have n6 := numB_len (n := t.fee.toNat) (m := 0) (by omega)
  have f7 := hf.grace
  have e7 := u64_of (v := t.grace) f7.1 f7.2
  have n7 := numB_len (n := t.grace.toNat) (m := 0) (by omega)
  have hp7 : 0 < (numB t.grace.toNat 0).length := by simp only [numB, List.length_cons]; omega
  refine Exe.of_ev tok Tryz.call29 Tryz.func29 rfl rfl rfl ?_
  refine box_as H (tmC t) rfl fun x w1 H1 => ?_
  refine load_rule tok H1 (v := tmV t) rfl ?_
  refine call_rule H1 (fun M I _ h => (show Ctr Tryz.prog 28 [tmV t] _ M I (fun _ : Unit => .bool true) (fun _ => True) (fun _ => []) (fun _ => []) from ht ▸ termsRight t _ M I h)) fun _ w2 _ H2 => ?_
  refine alloc_as tok H2 [.slice none 0 0] rfl rfl rfl fun qu w3 H3 => ?_
  have H3' : Hp ⟨w, M, I⟩ [row 5 1 (.slice none 0 0) 0 [], blk qu [.slice none 0 0] 93, blk x (tmC t) 28] [] w3 := (Hp.nil H3 5 1).keep
  have H3 : Hp ⟨w, M, I⟩ [row 5 1 (.slice none 0 0) 0 (byC []), blk qu [.slice none 0 0] 93, blk x (tmC t) 28] [] w3 := H3'
  refine draw_rule (A := [blk qu [.slice none 0 0] 93, row 5 1 (.slice none 0 0) 0 (byC [])]) tok tdr H3 [0, 1, 2, 3, 4, 5, 6, 7, 8, 9, 10, 11, 12, 13, 14, 15, 16, 17] [0, 1, 3, 7, 0, 16, 48, 127, 0, 256, 768, 1792, 4095, 0, 8192, 24576, 57344, 131071] rfl ?_
  refine pass_rule _ (fun w h => load_rule tok h (v := .int .u8 t.kind) rfl ⟨rfl, rfl⟩) ?_
  refine imp_rule (fun X wx h => call_rule h (fun M I _ h => uint_as qu ⟨none, 0, 0⟩ ([]) rfl (by simp only; omega) t.kind.toNat _ e0 (by omega) _ M I h) fun s0 w1 hs0 H1 => imp_done H1 ?_)
  have hs0 : s0.n = 0 + (numB t.kind.toNat 0).length := hs0
  refine pass_rule _ (fun w h => load_rule tok h (v := .int .i64 t.prin) rfl ⟨rfl, rfl⟩) ?_
  refine imp_rule (fun X wx h => call_rule h (fun M I _ h => uint_as qu s0 ([] ++ numB t.kind.toNat 0) (by simp only [List.length_append, List.length_nil]; omega) (by omega) t.prin.toNat _ e1 (by omega) _ M I h) fun s1 w1 hs1 H1 => imp_done H1 ?_)
  have hs1 : s1.n = s0.n + (numB t.prin.toNat 0).length := hs1
  refine pass_rule _ (fun w h => load_rule tok h (v := .int .u32 t.parts) rfl ⟨rfl, rfl⟩) ?_
  refine imp_rule (fun X wx h => call_rule h (fun M I _ h => uint_as qu s1 ([] ++ numB t.kind.toNat 0 ++ numB t.prin.toNat 0) (by simp only [List.length_append, List.length_nil]; omega) (by omega) t.parts.toNat _ e2 (by omega) _ M I h) fun s2 w1 hs2 H1 => imp_done H1 ?_)
  have hs2 : s2.n = s1.n + (numB t.parts.toNat 0).length := hs2
  refine pass_rule _ (fun w h => load_rule tok h (v := .int .u8 t.basis) rfl ⟨rfl, rfl⟩) ?_
  refine imp_rule (fun X wx h => call_rule h (fun M I _ h => uint_as qu s2 ([] ++ numB t.kind.toNat 0 ++ numB t.prin.toNat 0 ++ numB t.parts.toNat 0) (by simp only [List.length_append, List.length_nil]; omega) (by omega) t.basis.toNat _ e3 (by omega) _ M I h) fun s3 w1 hs3 H1 => imp_done H1 ?_)
  have hs3 : s3.n = s2.n + (numB t.basis.toNat 0).length := hs3
  refine done_rule fun w4 H4 => ?_
  have H4 : Hp ⟨w, M, I⟩ [blk qu [.slice s3.A s3.n s3.c] 93, row 5 1 (.slice s3.A s3.n s3.c) s3.n (byC ([] ++ numB t.kind.toNat 0 ++ numB t.prin.toNat 0 ++ numB t.parts.toNat 0 ++ numB t.basis.toNat 0)), blk x (tmC t) 28] [] w4 := H4.keep
  refine draw_rule (A := [blk qu [.slice s3.A s3.n s3.c] 93, row 5 1 (.slice s3.A s3.n s3.c) s3.n (byC ([] ++ numB t.kind.toNat 0 ++ numB t.prin.toNat 0 ++ numB t.parts.toNat 0 ++ numB t.basis.toNat 0))]) tok tdr H4 [0, 1, 2, 3, 4, 5, 6, 7, 8, 9, 10, 11, 12, 13, 14, 15, 16, 17] [0, 1, 3, 7, 0, 16, 48, 127, 0, 256, 768, 2047, 0, 4096, 12288, 32767, 65535, 131071] rfl ?_
  refine pass_rule _ (fun w h => load_rule tok h (v := .int .i64 t.months) rfl ⟨rfl, rfl⟩) ?_
  refine imp_rule (fun X wx h => call_rule h (fun M I _ h => uint_as qu s3 ([] ++ numB t.kind.toNat 0 ++ numB t.prin.toNat 0 ++ numB t.parts.toNat 0 ++ numB t.basis.toNat 0) (by simp only [List.length_append, List.length_nil]; omega) (by omega) t.months.toNat _ e4 (by omega) _ M I h) fun s4 w1 hs4 H1 => imp_done H1 ?_)
  have hs4 : s4.n = s3.n + (numB t.months.toNat 0).length := hs4
  refine pass_rule _ (fun w h => load_rule tok h (v := .int .i32 t.start) rfl ⟨rfl, rfl⟩) ?_
  refine imp_rule (fun X wx h => call_rule h (fun M I _ h => uint_as qu s4 ([] ++ numB t.kind.toNat 0 ++ numB t.prin.toNat 0 ++ numB t.parts.toNat 0 ++ numB t.basis.toNat 0 ++ numB t.months.toNat 0) (by simp only [List.length_append, List.length_nil]; omega) (by omega) t.start.toNat _ e5 (by omega) _ M I h) fun s5 w1 hs5 H1 => imp_done H1 ?_)
  have hs5 : s5.n = s4.n + (numB t.start.toNat 0).length := hs5
  refine pass_rule _ (fun w h => load_rule tok h (v := .int .i64 t.fee) rfl ⟨rfl, rfl⟩) ?_
  refine imp_rule (fun X wx h => call_rule h (fun M I _ h => uint_as qu s5 ([] ++ numB t.kind.toNat 0 ++ numB t.prin.toNat 0 ++ numB t.parts.toNat 0 ++ numB t.basis.toNat 0 ++ numB t.months.toNat 0 ++ numB t.start.toNat 0) (by simp only [List.length_append, List.length_nil]; omega) (by omega) t.fee.toNat _ e6 (by omega) _ M I h) fun s6 w1 hs6 H1 => imp_done H1 ?_)
  have hs6 : s6.n = s5.n + (numB t.fee.toNat 0).length := hs6
  refine pass_rule _ (fun w h => load_rule tok h (v := .int .i64 t.grace) rfl ⟨rfl, rfl⟩) ?_
  refine imp_rule (fun X wx h => call_rule h (fun M I _ h => uint_as qu s6 ([] ++ numB t.kind.toNat 0 ++ numB t.prin.toNat 0 ++ numB t.parts.toNat 0 ++ numB t.basis.toNat 0 ++ numB t.months.toNat 0 ++ numB t.start.toNat 0 ++ numB t.fee.toNat 0) (by simp only [List.length_append, List.length_nil]; omega) (by omega) t.grace.toNat _ e7 (by omega) _ M I h) fun s7 w1 hs7 H1 => imp_done H1 ?_)
  have hs7 : s7.n = s6.n + (numB t.grace.toNat 0).length := hs7
  refine imp_rule (fun X wx h => ?_)
  refine Exists.elim (h.rowSome (A := s7.A) (n := s7.n) (c := s7.c) (by omega)) fun b6 hb6 => ?_
  have H6 := frzBytes h (v := .slice s7.A s7.n s7.c) ([] ++ numB t.kind.toNat 0 ++ numB t.prin.toNat 0 ++ numB t.parts.toNat 0 ++ numB t.basis.toNat 0 ++ numB t.months.toNat 0 ++ numB t.start.toNat 0 ++ numB t.fee.toNat 0 ++ numB t.grace.toNat 0) hM (fun y hy => hlt y hy)
  refine call_rule H6 (fun M I _ h => doneE qu s7.A ⟨b6, 0, none⟩ hb6 s7.n s7.c ([] ++ numB t.kind.toNat 0 ++ numB t.prin.toNat 0 ++ numB t.parts.toNat 0 ++ numB t.basis.toNat 0 ++ numB t.months.toNat 0 ++ numB t.start.toNat 0 ++ numB t.fee.toNat 0 ++ numB t.grace.toNat 0) (by omega) _ M I h) fun r w9 _ H9 => imp_done H9 ?_
  refine done_rule fun w5 H5 => ?_
  have H7 : Hp ⟨w, M, I⟩ [] [Sl byteR (.slice r.A r.n r.c) ([] ++ numB t.kind.toNat 0 ++ numB t.prin.toNat 0 ++ numB t.parts.toNat 0 ++ numB t.basis.toNat 0 ++ numB t.months.toNat 0 ++ numB t.start.toNat 0 ++ numB t.fee.toNat 0 ++ numB t.grace.toNat 0)] w5 := Hp.keep H5
  exact Exists.intro r (And.intro rfl (And.intro trivial H7))
theorem tmBytesNo (t : Tm) (ht : tmB t = false) (w : World) (M I : BS) (H : Hp ⟨w, M, I⟩ [] [] w) :
    Ctr Tryz.prog 29 [tmV t] w M I (fun _ : Unit => .slice none 0 0) (fun _ => True) (fun _ => []) (fun _ => [Sl byteR (.slice none 0 0) []]) := by
  refine Exe.of_ev tok Tryz.call29 Tryz.func29 rfl rfl rfl ?_
  refine box_as H (tmC t) rfl fun x w1 H1 => ?_
  refine load_rule tok H1 (v := tmV t) rfl ?_
  refine call_rule H1 (fun M I _ h => (show Ctr Tryz.prog 28 [tmV t] _ M I (fun _ : Unit => .bool false) (fun _ => True) (fun _ => []) (fun _ => []) from ht ▸ termsRight t _ M I h)) fun _ w2 _ H2 => ?_
  exact Exists.intro () (And.intro rfl (And.intro trivial (Hp.keep (H2.slNil byteR))))
end Go.Proofs.YtgbmambkgcjhfaaGreatDoor
/- Structs in structs compared. -/
set_option linter.unusedVariables false
namespace Go.Wk
/-- As fEq, whatever compares the fields. -/
def fEqW (g : TypeId → Value → Value → Option Bool) (T : Tab) (xs ys : Array Value) : List Field → Option Bool
  | [] => some true
  | f :: fs => bif f.name == "_" then none else match partV (T f.type) xs f.offset, partV (T f.type) ys f.offset with
    | some a, some b => match g f.type a b, fEqW g T xs ys fs with
      | some r, some s => some (r && s)
      | _, _ => none
    | _, _ => none
/-- Values compared through so many structs of the types that are named. -/
def leafN (T : Tab) (oks : List TypeId) : Nat → TypeId → Value → Value → Option Bool
  | 0, t, x, y => leafEq (T t) x y
  | n + 1, t, x, y => match T t, x, y with
    | some ⟨.struct fs, _⟩, .agg xs, .agg ys => bif oks.contains t then fEqW (leafN T oks n) T xs ys fs.toList else none
    | _, _, _ => leafEq (T t) x y
section
variable {P : Program} {T : Tab} {K : Value → World → Prop} {w : World}
theorem fEqW_sound (hT : T.Ok P) {g : TypeId → Value → Value → Option Bool} {d : Nat} {xs ys : Array Value} (hg : ∀ t x y r, g t x y = some r → ∀ w, (Op.equalIn (d + 1) t x y).run P w = .ok r w) :
    ∀ {fs : List Field} {r : Bool}, fEqW g T xs ys fs = some r → ∀ w, (Op.eqFields (d + 1) xs ys fs).run P w = .ok r w
  | [], r, h, w => by simp only [fEqW, Option.some.injEq] at h; subst h; rfl
  | f :: fs, r, h, w => by
    unfold fEqW at h
    cases hn : (f.name == "_") with
    | true => rw [hn] at h; cases h
    | false =>
      rw [hn] at h
      simp only [cond_false] at h
      have hn' : f.name ≠ "_" := by simpa using hn
      cases ha : partV (T f.type) xs f.offset with
      | none => rw [ha] at h; cases h
      | some a =>
        cases hb : partV (T f.type) ys f.offset with
        | none => rw [ha, hb] at h; cases h
        | some b =>
          rw [ha, hb] at h
          simp only at h
          cases hr : g f.type a b with
          | none => rw [hr] at h; cases h
          | some r1 =>
            cases hs : fEqW g T xs ys fs with
            | none => rw [hr, hs] at h; cases h
            | some s =>
              rw [hr, hs] at h
              simp only [Option.some.injEq] at h
              subst h
              have ih := fEqW_sound hT hg hs
              simp only [Op.eqFields, hn', ne_eq, not_false_eq_true, if_true, Sem.run_bind, run_part hT ha, run_part hT hb, Result.andThen_ok, hg _ _ _ _ hr, Sem.run_ite]
              cases r1 with
              | false => simp
              | true => simpa using ih w
theorem leafN_sound (hT : T.Ok P) {oks : List TypeId} (ho : ∀ t, oks.contains t = true → P.stoodInHeld t = false) : ∀ (n d : Nat), n ≤ d → ∀ (t : TypeId) (x y : Value) (r : Bool), leafN T oks n t x y = some r → ∀ w, (Op.equalIn (d + 1) t x y).run P w = .ok r w
  | 0, d, _, t, x, y, r, h, w => leaf_sound hT h w
  | n + 1, d, hd, t, x, y, r, h, w => by
    unfold leafN at h
    split at h
    · rename_i fs i xs ys ht
      cases hc : oks.contains t with
      | false => rw [hc] at h; cases h
      | true =>
        rw [hc] at h
        simp only [cond_true] at h
        have hf : P.fieldsOf t = fs := by unfold Program.fieldsOf; rw [(hT t _ ht).1]
        have := run_equalIn_struct (P := P) w d t xs ys (by rw [hf]; exact (hT t _ ht).1) (ho t hc)
        rw [this, hf]
        obtain ⟨d', rfl⟩ : ∃ d', d = d' + 1 := ⟨d - 1, by omega⟩
        exact fEqW_sound hT (leafN_sound hT ho n d' (by omega)) h w
    · exact leaf_sound hT h w
/-- == at a struct with structs in it. -/
theorem eqN_struct (hT : T.Ok P) (oks : List TypeId) (n : Nat) {t : TypeId} {xs ys : Array Value} {ox oy : Operand} {r : Bool} (ho : ∀ t, oks.contains t = true → P.stoodInHeld t = false) (hn : Nat.ble n 9999 = true) (hg : P.eqGuardType P.depth t = false)
    (h : leafN T oks n t (.agg xs) (.agg ys) = some r) (k : K (.bool r) w) : BinK P K w .eql t ox oy (.agg xs) (.agg ys) := by
  refine BinK.of ?_ k
  have e := leafN_sound hT ho n 9999 (Nat.le_of_ble_eq_true hn) t (.agg xs) (.agg ys) r h w
  simp only [binS, Sem.run_bind, run_eqGuard_agg w .eql t ox oy xs ys hg, Result.andThen_ok, run_eql_struct]
  rw [e]
  rfl
theorem neN_struct (hT : T.Ok P) (oks : List TypeId) (n : Nat) {t : TypeId} {xs ys : Array Value} {ox oy : Operand} {r : Bool} (ho : ∀ t, oks.contains t = true → P.stoodInHeld t = false) (hn : Nat.ble n 9999 = true) (hg : P.eqGuardType P.depth t = false)
    (h : leafN T oks n t (.agg xs) (.agg ys) = some r) (k : K (.bool (!r)) w) : BinK P K w .neq t ox oy (.agg xs) (.agg ys) := by
  refine BinK.of ?_ k
  have e := leafN_sound hT ho n 9999 (Nat.le_of_ble_eq_true hn) t (.agg xs) (.agg ys) r h w
  simp only [binS, Sem.run_bind, run_eqGuard_agg w .neq t ox oy xs ys hg, Result.andThen_ok, run_neq_struct]
  rw [e]
  rfl
end
end Go.Wk
namespace Go.Proofs.YtgbmambkgcjhfaaGreatDoor
open Go Go.Proofs Go.Wk
def tmEq (a b : Tm) : Bool := (a.kind == b.kind) && ((a.prin == b.prin) && (((a.parts == b.parts) && ((a.basis == b.basis) && true)) && ((a.months == b.months) && ((a.start == b.start) && ((a.fee == b.fee) && ((a.grace == b.grace) && true))))))
theorem tmEq_iff {a b : Tm} : tmEq a b = true ↔ a = b := by
  unfold tmEq
  cases a; cases b
  simp only [Bool.and_eq_true, beq_iff_eq, and_true, Tm.mk.injEq, and_assoc]
theorem stood28 : Tryz.prog.stoodInHeld 28 = false := by kernel_rfl
theorem stood25 : Tryz.prog.stoodInHeld 25 = false := by kernel_rfl
theorem okS (t : TypeId) (h : [28, 25].contains t = true) : Tryz.prog.stoodInHeld t = false := by
  have h2 : t = 28 ∨ t = 25 := by simpa using h
  rcases h2 with e | e <;> rw [e]
  · exact stood28
  · exact stood25
theorem guard28 : Tryz.prog.eqGuardType Tryz.prog.depth 28 = false := by kernel_rfl
theorem tmEqV (a b : Tm) : leafN tb [28, 25] 2 28 (tmV a) (tmV b) = some (tmEq a b) := rfl
end Go.Proofs.YtgbmambkgcjhfaaGreatDoor
