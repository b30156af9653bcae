/- An entry made of legs: the walk. -/
import Derived.Test.YtenpgmnknmnofaaDoorT6
namespace Go.Proofs.YtenpgmnknmnofaaDoor
open Go Go.Proofs Go.Wk
def sumGo : List Leg → List (Int × Int) → Option (List (Int × Int))
  | [], m => some m
  | l :: r, m => if in64 ((lk l.acct m).getD 0 + l.amt) then sumGo r (putL l.acct ((lk l.acct m).getD 0 + l.amt) m) else none
@[reducible] def pairL (p : Int × Int) : Leg := ⟨p.1, p.2⟩
/-- What 'Make' makes of legs. -/
def made (legs out : List Leg) : Prop := match sumGo legs [] with
  | none => out = []
  | some m => out.Perm (m.map pairL) ∧ srt out
@[reducible] def entV (k : Key) (v : Value) : Value := match v with
  | .slice A n c => .agg #[.int .u32 k.loan, .int .i32 k.day, .int .u8 k.kind, .int .u32 k.seq, .slice A n c]
  | v => .agg #[.int .u32 k.loan, .int .i32 k.day, .int .u8 k.kind, .int .u32 k.seq, v]
@[reducible] def entC (k : Key) (A : Option Addr) (n c : Nat) : List Value := [.int .u32 k.loan, .int .i32 k.day, .int .u8 k.kind, .int .u32 k.seq, .slice A n c]
@[reducible] def zeroC : List Value := [.int .u32 0, .int .i32 0, .int .u8 0, .int .u32 0, .slice none 0 0]
structure SV where
  A : Option Addr
  n : Nat
  c : Nat
theorem mem_putL {κ ν : Type} [DecidableEq κ] {k : κ} {v : ν} : ∀ {l : List (κ × ν)} {p : κ × ν}, p ∈ putL k v l → p = (k, v) ∨ p ∈ l
  | [], p, h => by simpa [putL] using h
  | q :: l, p, h => by
    unfold putL at h
    split at h
    · rcases List.mem_cons.1 h with h | h
      · exact .inl h
      · exact .inr (List.mem_cons_of_mem _ h)
    · rcases List.mem_cons.1 h with h | h
      · exact .inr (h ▸ List.mem_cons_self)
      · exact (mem_putL h).imp id (List.mem_cons_of_mem _)
theorem len_putL {κ ν : Type} [DecidableEq κ] {k : κ} {v : ν} : ∀ {l : List (κ × ν)}, (putL k v l).length ≤ l.length + 1
  | [] => by simp [putL]
  | q :: l => by
    unfold putL
    split
    · simp
    · simp only [List.length_cons]; have := len_putL (k := k) (v := v) (l := l); omega
theorem lk_mem {κ ν : Type} [DecidableEq κ] {k : κ} {v : ν} : ∀ {l : List (κ × ν)}, lk k l = some v → (k, v) ∈ l
  | [], h => by cases h
  | q :: l, h => by
    unfold lk at h
    split at h
    · rename_i hk
      rw [← hk, ← Option.some.inj h]; exact List.mem_cons_self
    · exact List.mem_cons_of_mem _ (lk_mem h)
theorem make (k : Key) (A : Option Addr) (n c : Nat) (legs : List Leg) (hn : legs.length ≤ 12) (w : World) (M I : BS) (hM : ∀ b, ¬ M b) (H : Hp ⟨w, M, I⟩ [] [Sl legR (.slice A n c) legs] w) :
    Ctr Tryd.prog 6 [keyV k, .slice A n c] w M I (fun a : SV × List Leg => .agg #[.int .u32 k.loan, .int .i32 k.day, .int .u8 k.kind, .int .u32 k.seq, .slice a.1.A a.1.n a.1.c]) (fun a => made legs a.2) (fun _ => []) (fun a => [Sl legR (.slice a.1.A a.1.n a.1.c) a.2]) := by
  obtain ⟨hnl, _, _⟩ := H.sll (A := A) (n := n) (c := c)
  refine Exe.of_ev tok Tryd.call6 Tryd.func6 rfl rfl rfl ?_
  refine box_as H (keyC k) rfl fun x w1 H1 => ?_
  refine alloc_as tok H1 zeroC rfl rfl rfl fun r w2 H2 => ?_
  refine makeMap_rule H2 (fun n : Int => Value.int .u8 n) (fun n : Int => Value.int .i64 n) fun mm w3 H3 => ?_
  refine loop_rule tok (σ := Nat × List (Int × Int)) 549755749248 (fun s => [(16, .int .i64 s.1)])
    (fun s w' => s.1 ≤ legs.length ∧ s.2.length ≤ s.1 ∧ (∀ p, p ∈ s.2 → inK .u8 p.1 ∧ inK .i64 p.2) ∧ sumGo legs [] = sumGo (legs.drop s.1) s.2 ∧
      Hp ⟨w, M, I⟩ [mapO mm (fun n : Int => Value.int .u8 n) (fun n : Int => Value.int .i64 n) s.2, blk r zeroC 29, blk x (keyC k) 25] [Sl legR (.slice A n c) legs] w') (fun s => legs.length - s.1) (0, []) rfl rfl ⟨rfl, trivial⟩
    ⟨Nat.zero_le _, Nat.le_refl _, by simp, rfl, H3⟩ ?_
  rintro ⟨i, m⟩ j w4 ⟨hi, hml, hmr, hsum, H4⟩
  simp only at hi hml hmr hsum H4
  refine brd (fun h5 => ?_) (fun h5 => ?_)
  · refine idx_rule tok H4 rfl rfl rfl (by omega) h5 fun eb eo y hy H5 => ?_
    refine ldp_rule tok H5 rfl rfl rfl fun _ hok H6 => ?_
    refine alloc_rule tok H6 rfl rfl fun lb w5 H7 => ?_
    refine store_as tok H7 [.int .u8 y.acct, .int .i64 y.amt] rfl rfl rfl rfl rfl fun w6 H8 => ?_
    refine load_rule tok H8 rfl ?_
    have hy' : legs[i]? = some y := by simpa using hy
    have hd : legs.drop i = y :: legs.drop (i + 1) := by
      obtain ⟨hj, _⟩ := List.getElem?_eq_some_iff.1 hy'
      rw [List.drop_eq_getElem_cons hj]
      rw [List.getElem?_eq_getElem hj] at hy'
      rw [Option.some.inj hy']
    have hz : inK .i64 ((lk y.acct m).getD 0) := by
      cases hl : lk y.acct m with
      | none => exact ⟨by simp [kLo], by simp [kHi]⟩
      | some v => exact (hmr _ (lk_mem hl)).2
    refine lookup_rule tok H8 (k := y.acct) (v := .int .i64 ((lk y.acct m).getD 0)) rfl rfl rfl (int_keys tok rfl) rfl ?_ ?_
    · cases lk y.acct m <;> rfl
    refine load_rule tok H8 rfl ?_
    rcases (show in64 ((lk y.acct m).getD 0 + y.amt) = true ∨ in64 ((lk y.acct m).getD 0 + y.amt) = false by cases in64 ((lk y.acct m).getD 0 + y.amt) <;> simp) with en | en
    · refine call_rule H8 (fun M I _ h => (addV_ok en).symm ▸ add _ _ hz hok.2 _ M I h) fun _ w7 _ H9 => ?_
      refine load_rule tok H9 rfl ?_
      refine mapUpd_rule tok H9 (k := y.acct) (v := (lk y.acct m).getD 0 + y.amt) rfl (int_keys tok rfl) rfl rfl fun w8 H10 => ?_
      refine Exists.intro (i + 1, putL y.acct ((lk y.acct m).getD 0 + y.amt) m) (And.intro ⟨?_, trivial⟩ (And.intro ?_ ⟨?_, ?_, ?_, ?_, H10.keep⟩))
      · show Value.int .i64 (IntKind.i64.wrap (i + 1)) = _
        rw [w64 (by omega) (by omega)]; rfl
      · simp only; omega
      · simp only; omega
      · have := len_putL (k := y.acct) (v := (lk y.acct m).getD 0 + y.amt) (l := m); simp only; omega
      · intro p hp
        rcases mem_putL hp with rfl | hp
        · simp only [in64, Bool.and_eq_true, decide_eq_true_eq] at en
          exact ⟨hok.1, by simp only [inK, kLo, kHi]; exact en⟩
        · exact hmr p hp
      · rw [hsum, hd, sumGo, if_pos en]
    · refine call_rule H8 (fun M I _ h => (addV_no en).symm ▸ add _ _ hz hok.2 _ M I h) fun _ w7 _ H9 => ?_
      refine load_rule tok H9 (v := keyV k) rfl ?_
      refine store_as tok H9 (entC k none 0 0) rfl rfl rfl rfl rfl fun w8 H10 => ?_
      refine Exists.intro ⟨r, 0, none⟩ (Exists.intro (.agg #[.int .u32 k.loan, .int .i32 k.day, .int .u8 k.kind, .int .u32 k.seq, .slice none 0 0]) (And.intro rfl (And.intro (Hp.ld (T := tb) tok H10 rfl) ?_)))
      refine Exists.intro (⟨none, 0, 0⟩, []) (And.intro rfl (And.intro ?_ (Hp.keep (Hp.slNil legR H10))))
      unfold made
      rw [hsum, hd, sumGo, if_neg (by rw [en]; simp)]
  · have hii : i = legs.length := by omega
    have hsm : sumGo legs [] = some m := by rw [hsum, hii, List.drop_length, sumGo]
    refine load_rule tok H4 (v := keyV k) rfl ?_
    refine alloc_as tok H4 zeroC rfl rfl rfl fun o w5 H5 => ?_
    refine store_as tok H5 (entC k none 0 0) rfl rfl rfl rfl rfl fun w6 H6 => ?_
    refine range_rule tok H6 rfl fun it w7 H7 => ?_
    have H7' : Hp ⟨w, M, I⟩ [row 40 2 (.slice none 0 0) 0 [], rngO mm it (fun n : Int => Value.int .u8 n) (fun n : Int => Value.int .i64 n) m m none, blk o (entC k none 0 0) 29, blk r zeroC 29, blk x (keyC k) 25] [] w7 := (Hp.nil H7 40 2).keep
    refine loop_rule tok (σ := (List Leg × List (Int × Int)) × Option (Int × Int) × SV) 72048797944911872 (fun s => [])
      (fun s w' => (s.1.1 ++ s.1.2.map pairL).Perm (m.map pairL) ∧ s.1.1.length = s.2.2.n ∧ (s.1.1 = [] → s.2.2.A = none ∧ s.2.2.c = 0) ∧
        Hp ⟨w, M, I⟩ [row 40 2 (.slice s.2.2.A s.2.2.n s.2.2.c) s.2.2.n (legsC s.1.1), rngO mm it (fun n : Int => Value.int .u8 n) (fun n : Int => Value.int .i64 n) m s.1.2 s.2.1, blk o (entC k s.2.2.A s.2.2.n s.2.2.c) 29, blk r zeroC 29, blk x (keyC k) 25] [] w') (fun s => s.1.2.length) (([], m), none, ⟨none, 0, 0⟩) rfl rfl trivial
      ⟨by simp, rfl, fun _ => ⟨rfl, rfl⟩, H7'⟩ ?_
    rintro ⟨⟨dn, lf⟩, cur, A1, n1, c1⟩ j2 w8 ⟨hpm, hdl, hnil, H8⟩
    simp only at hpm hdl hnil H8
    refine next_rule H8 (fun hl => ?_) fun a p b w9 hl H9 => ?_
    · subst hl
      simp only [List.map_nil, List.append_nil] at hpm
      refine load_rule tok H8 (v := .slice A1 n1 c1) rfl ?_
      have hl12 : dn.length ≤ 12 := by have := hpm.length_eq; simp at this; omega
      rcases (show dn = [] ∨ dn ≠ [] by cases dn <;> simp) with hd0 | hd0
      · obtain ⟨rfl, rfl⟩ := hnil hd0
        subst hd0
        obtain rfl : 0 = n1 := hdl
        refine call_rule H8 (fun M I _ h => sortNil _ M I h) fun _ w9 _ H9 => ?_
        refine load_rule tok H9 (v := .agg #[.int .u32 k.loan, .int .i32 k.day, .int .u8 k.kind, .int .u32 k.seq, .slice none 0 0]) rfl ?_
        refine store_as tok H9 (entC k none 0 0) rfl rfl rfl rfl rfl fun w10 H10 => ?_
        refine Exists.intro ⟨r, 0, none⟩ (Exists.intro (.agg #[.int .u32 k.loan, .int .i32 k.day, .int .u8 k.kind, .int .u32 k.seq, .slice none 0 0]) (And.intro rfl (And.intro (Hp.ld (T := tb) tok H10 rfl) ?_)))
        refine Exists.intro (⟨none, 0, 0⟩, []) (And.intro rfl (And.intro ?_ (Hp.keep (Hp.slNil legR H10))))
        unfold made
        rw [hsm]
        exact ⟨hpm, List.Pairwise.nil⟩
      · obtain ⟨fa, ha⟩ := H8.own (A := row 40 2 (.slice A1 n1 c1) n1 (legsC dn))
        obtain ⟨A1', c1', e1, _, _, hb⟩ := row_shape ha
        have hn0 : n1 ≠ 0 := by rw [← hdl]; exact fun h => hd0 (List.length_eq_zero_iff.1 h)
        obtain ⟨b1, rfl⟩ := hb hn0
        injection e1 with e1 e2 e3
        subst e1
        refine call_rule H8 (fun M I _ h => sortFew b1 n1 c1 (by omega) dn hdl _ M I h) fun l w9 hφ H9 => ?_
        obtain ⟨hlp, hls⟩ := hφ
        refine load_rule tok H9 (v := .agg #[.int .u32 k.loan, .int .i32 k.day, .int .u8 k.kind, .int .u32 k.seq, .slice (some ⟨b1, 0, none⟩) n1 c1]) rfl ?_
        refine store_as tok H9 (entC k (some ⟨b1, 0, none⟩) n1 c1) rfl rfl rfl rfl rfl fun w10 H10 => ?_
        refine Exists.intro ⟨r, 0, none⟩ (Exists.intro (.agg #[.int .u32 k.loan, .int .i32 k.day, .int .u8 k.kind, .int .u32 k.seq, .slice (some ⟨b1, 0, none⟩) n1 c1]) (And.intro rfl (And.intro (Hp.ld (T := tb) tok H10 rfl) ?_)))
        have hcl : ∀ i x, l[i]? = some x → ∃ p : Unit, (inK .u8 x.acct ∧ inK .i64 x.amt) ∧ ((legsC l).drop (i * 2)).take 2 = [.int .u8 x.acct, .int .i64 x.amt] ∧ ([] : List Fact) = [] := fun i x hx => by
          obtain ⟨hj, _⟩ := List.getElem?_eq_some_iff.1 hx
          have hm : x ∈ l := List.mem_of_getElem? hx
          obtain ⟨q, hq, rfl⟩ := List.mem_map.1 ((hlp.trans hpm).mem_iff.1 hm)
          refine ⟨(), hmr q hq, ?_, rfl⟩
          rw [legsC_drop, List.drop_eq_getElem_cons hj]
          rw [List.getElem?_eq_getElem hj] at hx
          rw [Option.some.inj hx]
          rfl
        have H11 := (H10.addCl legR (cs := legsC l) (xs := l) (legsC_len l) hcl).frzRow (v := .slice (some ⟨b1, 0, none⟩) n1 c1) (xs := l) legR hM rfl (by decide)
        refine Exists.intro (⟨some ⟨b1, 0, none⟩, n1, c1⟩, l) (And.intro rfl (And.intro ?_ (Hp.keep H11)))
        unfold made
        rw [hsm]
        exact ⟨hlp.trans hpm, hls⟩
    · refine entry_rule H9 ?_
      refine load_rule tok H9 (v := .slice A1 n1 c1) rfl ?_
      refine slice_as tok H9 [.int .u8 p.1, .int .i64 p.2] rfl rfl rfl rfl rfl rfl fun g w10 H10 => ?_
      have hl12 : m.length ≤ 12 := by omega
      have hn12 : n1 + 1 ≤ 12 := by
        have := hpm.length_eq
        simp only [List.length_append, List.length_map, hl, List.length_cons] at this
        omega
      refine append_rule (v := .slice A1 n1 c1) (b := g) (m := 1) (c := 1) tok H10 rfl rfl rfl rfl rfl rfl rfl rfl ?_ (by omega) fun A2 c2 w11 H11 => ?_
      · show (n1 + 1) * 16 ≤ _
        omega
      refine store_as tok H11 (entC k A2 (n1 + 1) c2) rfl rfl rfl rfl rfl fun w12 H12 => ?_
      refine Exists.intro ((dn ++ [pairL p], a ++ b), some p, ⟨A2, n1 + 1, c2⟩) (And.intro trivial (And.intro ?_ ⟨?_, ?_, ?_, ?_⟩))
      · simp only [hl, List.length_append, List.length_cons]; omega
      · refine List.Perm.trans ?_ hpm
        simp only [hl, List.map_append, List.map_cons, List.append_assoc, List.cons_append, List.nil_append]
        refine List.Perm.append_left dn ?_
        exact List.perm_middle.symm
      · simp only [List.length_append, List.length_cons, List.length_nil, hdl]
      · intro h; simp at h
      · have e : legsC (dn ++ [pairL p]) = legsC dn ++ [.int .u8 p.1, .int .i64 p.2] := by rw [legsC_app]; rfl
        simp only [e]
        exact H12.keep
end Go.Proofs.YtenpgmnknmnofaaDoor
