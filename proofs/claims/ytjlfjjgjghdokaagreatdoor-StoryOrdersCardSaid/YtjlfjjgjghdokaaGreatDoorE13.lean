/- A story is made, its dues are told, the document's example: the walks. -/
import Derived.Test.YtjlfjjgjghdokaaGreatDoorE12
set_option linter.unusedVariables false
namespace Go.Proofs.YtjlfjjgjghdokaaGreatDoor
open Go Go.Proofs Go.Wk
theorem roll_day {hs : List Int} {s k d : Int} (h : rollR hs s k (some d)) : dayB d = true := by
  obtain ⟨p, _, h2⟩ := h
  cases p with
  | none => cases h2
  | some p =>
    have h3 : nextR hs p (some d) := h2
    have h4 := h3.2.1
    unfold openB at h4
    simp only [Bool.and_eq_true] at h4
    exact h4.1
theorem sto_ok {t : Tm} (hin : TmIn t) (ok : TmOk t) {loan : Int} {hs : List Int} {ds : List (Int × Int)} (h : DuesR t hs t.months.toNat ds) : StoOk ⟨loan, t, ds⟩ := by
  have hm := ok.months
  refine ⟨hin, ok, fun d hd => ?_, ?_⟩
  · obtain ⟨i, hi, e⟩ := List.mem_iff_getElem.1 hd
    have hi : i < ds.length := hi
    obtain ⟨day, s, r1, r2, r3⟩ := h.at_ i (by rw [← h.len]; exact hi)
    rw [List.getElem?_eq_getElem hi, e] at r3
    have hb := roll_day r1
    rw [← (Prod.mk.inj (Option.some.inj r3)).1] at hb
    simp only [dayB, Bool.and_eq_true, decide_eq_true_eq] at hb
    exact hb
  · show 1 ≤ ds.length ∧ ds.length ≤ 480
    rw [h.len]; omega
theorem storyNew (loan : Int) (t : Tm) (hin : TmIn t) (A : Option Addr) (n c : Nat) (hs : List Int) (ht : tmB t = true) (hh : holyB hs = true) (w : World) (M I : BS) (hM : ∀ b, ¬ M b) (H : Hp ⟨w, M, I⟩ [] [Sl dayR (.slice A n c) hs] w) :
    Ctr Tryz.prog 13 [.int .u32 loan, tmV t, .slice A n c] w M I (fun a : Nat × SV × List (Int × Int) => .tuple #[.pointer (some ⟨a.1, 0, none⟩), .nilIface]) (fun a => DuesR t hs t.months.toNat a.2.2) (fun a => [blk a.1 (stoC ⟨loan, t, a.2.2⟩ a.2.1) 120]) (fun a => [Sl dueR (.slice a.2.1.A a.2.1.n a.2.1.c) a.2.2]) := by
  refine Exe.of_ev tok Tryz.call13 Tryz.func13 rfl rfl rfl ?_
  refine box_as H (tmC t) rfl fun b w1 H1 => ?_
  refine load_rule tok H1 (v := tmV t) rfl ?_
  refine call_rule H1 (fun M I h0 h => dues t hin A n c hs ht hh _ M I (h0 rfl) h) fun a w2 ha H2 => ?_
  refine load_rule tok H2 (v := tmV t) rfl ?_
  refine box_as H2 (stoC ⟨loan, t, a.2⟩ a.1) rfl fun s w3 H3 => ?_
  exact Exists.intro (s, a.1, a.2) (And.intro rfl (And.intro ha (Hp.keep H3)))
theorem due_one (x : Int × Int) (p : Unit) (_ : dueR.ok x p) (u : Value) (hu : u ∈ dueR.cells x p) : u.oneCell' = true := by
  simp only [dueC, List.mem_cons, List.not_mem_nil, or_false] at hu
  rcases hu with rfl | rfl <;> rfl
theorem cloneDues (ad : Addr) (n c : Nat) (ds : List (Int × Int)) (hn : ds.length ≤ 1000000) (w : World) (M I : BS) (hM : ∀ b, ¬ M b) (H : Hp ⟨w, M, I⟩ [] [Sl dueR (.slice (some ad) n c) ds] w) :
    Ctr Tryz.prog 48 [.slice (some ad) n c] w M I (fun a : SV => .slice a.A a.n a.c) (fun _ => True) (fun _ => []) (fun a => [Sl dueR (.slice a.A a.n a.c) ds]) := by
  obtain ⟨hl, _, _⟩ := H.sll (A := some ad) (n := n) (c := c)
  refine Exe.of_ev tok Tryz.call48 Tryz.func48 rfl rfl rfl ?_
  refine slice_as tok H [] rfl rfl rfl rfl rfl rfl fun g w1 H1 => ?_
  have H2 : Hp ⟨w, M, I⟩ [row 56 2 (.slice (some ⟨g, 0, none⟩) 0 0) 0 []] [Sl dueR (.slice (some ad) n c) ds] w1 := H1.toRow 2 0 rfl (by decide)
  refine append_sl (v := .slice (some ⟨g, 0, none⟩) 0 0) (A := some ad) (m := n) (c := c) tok H2 rfl rfl rfl rfl rfl rfl rfl due_one (by show (0 + n) * 16 ≤ _; omega) (by omega) fun A2 c2 news w4 H4 => ?_
  have H4' : Hp ⟨w, M, I⟩ [row 56 2 (.slice A2 (0 + n) c2) (0 + n) news] [Cl dueR news ds, Sl dueR (.slice (some ad) n c) ds] w4 := H4
  have H5 := H4'.frzRow (v := .slice A2 (0 + n) c2) (xs := ds) dueR hM rfl (by decide)
  exact Exists.intro ⟨A2, 0 + n, c2⟩ (And.intro rfl (And.intro trivial (Hp.keep H5)))
theorem storyDues (sb : Nat) (S : Sto) (hS : StoOk S) (dv : SV) (w : World) (M I : BS) (H : Hp ⟨w, M, I⟩ [blk sb (stoC S dv) 120] [Sl dueR (.slice dv.A dv.n dv.c) S.dues] w) :
    Ctr Tryz.prog 17 [.pointer (some ⟨sb, 0, none⟩)] w M I (fun a : SV => .slice a.A a.n a.c) (fun _ => True) (fun _ => [blk sb (stoC S dv) 120]) (fun a => [Sl dueR (.slice a.A a.n a.c) S.dues]) := by
  obtain ⟨vA, vn, vc⟩ := dv
  have hlen := hS.len
  obtain ⟨hvn, _, _⟩ := H.sll (A := vA) (n := vn) (c := vc)
  obtain ⟨b, o, eA⟩ := H.slAt (A := vA) (n := vn) (c := vc) (by omega)
  subst eA
  refine Exe.of_ev tok Tryz.call17 Tryz.func17 rfl rfl rfl ?_
  refine load_rule tok H (v := .slice (some ⟨b, o, none⟩) vn vc) rfl ?_
  refine call_rule H (fun M I h0 h => cloneDues ⟨b, o, none⟩ vn vc S.dues (by omega) _ M I (h0 rfl) h) fun a w2 _ H2 => ?_
  exact Exists.intro a (And.intro rfl (And.intro trivial (Hp.keep H2)))
theorem row_ldA {P : Program} {T : Tab} {K : Value → World → Prop} {w : World} {B : Base} {S S' : List Asn} {F : List Fact} (hT : T.Ok P) (H : Hp B S F w) {A : Option Addr} {b o e sz n c : Nat} {cs : List Value} {t : TypeId} (v : Value) (hA : A = some ⟨b, 0, none⟩) [hp : TakeR S (.slice A n c) e sz n cs S'] (h : ldV (T t) cs o = some v) (k : K v w) : LoadK P K w t (.pointer (some ⟨b, o, none⟩)) := by
  subst hA
  obtain ⟨fa, ha⟩ := H.own (A := row e sz (.slice (some ⟨b, 0, none⟩) n c) n cs) (hp := ⟨hp.perm⟩)
  obtain ⟨_, _, hc, _⟩ := row_cells ha rfl
  have := hc.of_ld hT h
  rw [Nat.zero_add] at this
  exact this.load k
theorem row_at {w : World} {B : Base} {S S' : List Asn} {F : List Fact} {A : Option Addr} {e sz n c : Nat} {cs : List Value} (H : Hp B S F w) [hp : TakeR S (.slice A n c) e sz n cs S'] (h : n ≠ 0) : ∃ b, A = some ⟨b, 0, none⟩ := by
  obtain ⟨fa, hfa⟩ := Hp.own (A := row e sz (.slice A n c) n cs) (S' := S') (hp := ⟨hp.perm⟩) H
  obtain ⟨A', c', e1, _, _, hb⟩ := row_shape hfa
  injection e1 with e1 e2 e3
  rw [e1]
  exact hb h
/-- Through the day ahead of its beginning there is the boarding alone. -/
theorem tell_board {S : Sto} (hS : StoOk S) : tellF S (S.t.start - 1) [] = ⟨{ st0 with prin := S.t.prin, status := 1 }, 0, [], [(⟨S.loan, S.t.start, 1, 0⟩, refMade [⟨2, S.t.prin⟩, ⟨1, -S.t.prin⟩])]⟩ := by
  have e1 : (S.t.start - 1 + 2 - S.t.start).toNat = 1 := by omega
  unfold tellF
  rw [e1]
  show oneDay S (S.t.start - 1) (S.t.start + ((0 : Nat) : Int)) _ = _
  have e2 : S.t.start + ((0 : Nat) : Int) = S.t.start := Int.add_zero _
  rw [e2]
  unfold oneDay
  rw [if_neg (by omega)]
  unfold boardF
  rw [if_pos rfl]
  rfl
theorem one_entry {es : List En} {k : Key} {ls : List Leg} (h : es.map kl = [(k, ls)]) : ∃ x : En, es = [x] ∧ x.k = k := by
  cases es with
  | nil => cases h
  | cons x r =>
    cases r with
    | nil =>
      simp only [List.map_cons, List.map_nil, List.cons.injEq, and_true] at h
      exact ⟨x, rfl, congrArg Prod.fst h⟩
    | cons y t => simp at h
theorem awT_start : awT.start = numD 2024 1 31 := rfl
theorem awake17 (w : World) (M I : BS) (hM : ∀ b, ¬ M b) (H : Hp ⟨w, M, I⟩ [] [LibF] w) :
    Ctr Tryz.prog 10 [] w M I (fun _ : Unit => .bool true) (fun _ => True) (fun _ => []) (fun _ => []) := by
  refine Exe.of_ev tok Tryz.call10 Tryz.func10 rfl rfl rfl ?_
  refine call_rule H (fun M I h0 h => awRead _ M I (h0 rfl) h) fun _ w1 _ H1 => ?_
  refine alloc_as tok H1 (tmC ⟨0, 0, 0, 0, 0, 0, 0, 0⟩) rfl rfl rfl fun b w2 H2 => ?_
  refine store_as tok H2 (tmC awT) rfl rfl rfl rfl rfl fun w3 H3 => ?_
  refine load_rule tok H3 (v := tmV awT) rfl ?_
  have H4 : Hp ⟨w, M, I⟩ [blk b (tmC awT) 28] [Sl dayR (.slice none 0 0) [], Sl evR (.slice none 0 0) [], LibF] w3 := Hp.keep (Hp.slNil dayR (Hp.slNil evR H3))
  refine call_rule H4 (fun M I h0 h => storyNew 3 awT awIn none 0 0 [] (tmB_iff.2 awOk) (by decide) _ M I (h0 rfl) h) fun a w4 ha H5 => ?_
  have hS := sto_ok (loan := 3) awIn awOk ha
  refine load_rule tok H5 (v := .int .i32 awT.start) rfl ?_
  have e1 : IntKind.i32.wrap (awT.start - 1) = awT.start - 1 := by decide
  refine call_rule H5 (fun M I _ h => e1.symm ▸ tell a.1 ⟨3, awT, a.2.2⟩ hS a.2.1 none 0 0 [] (by decide) (fun e he => by cases he) (awT.start - 1) (by show awT.start - 1 ≤ awT.start + 10000; omega) (by decide) _ M I h) fun r w5 hr H6 => ?_
  rw [e1] at hr
  have hr1 : r.1 = { st0 with prin := awT.prin, status := 1 } ∧ r.2.es.map kl = [(⟨3, awT.start, 1, 0⟩, refMade [⟨2, awT.prin⟩, ⟨1, -awT.prin⟩])] := by
    obtain ⟨l, h1, h2, h3, h4⟩ := hr
    have e2 : l = [] := h1.eq_nil
    have e3 : mn (awT.start - 1) 3640000 = awT.start - 1 := by decide
    rw [e3, e2, tell_board hS] at h3 h4
    exact ⟨h3, h4⟩
  refine Exists.elim (show ∃ x : En, r.2.es = [x] ∧ x.k = ⟨3, awT.start, 1, 0⟩ from one_entry hr1.2) fun x hx => ?_
  have hlen : r.2.es.length = 1 := by rw [hx.1]; rfl
  refine alloc_as tok H6 (stC st0) rfl rfl rfl fun z w6 H7 => ?_
  refine store_as tok H7 (stC r.1) rfl rfl rfl rfl rfl fun w7 H8 => ?_
  refine br (fun q => ?_) (fun q => ?_)
  · refine Exists.elim (row_at (A := r.2.A) (n := r.2.es.length) (c := r.2.c) H8 (by omega)) fun eb hA => ?_
    refine idx_ownA tok hA rfl rfl (Int.le_refl 0) (by omega) ?_
    refine row_ldA (A := r.2.A) (n := r.2.es.length) (c := r.2.c) tok H8 (.int .u8 1) hA (by rw [hx.1]; show some (Value.int .u8 x.k.kind) = _; rw [hx.2]) ?_
    refine load_rule tok H8 (v := .int .u8 r.1.status) rfl ?_
    refine br (fun q2 => ?_) (fun q2 => ?_)
    · refine load_rule tok H8 (v := stV r.1) rfl ?_
      refine call_rule H8 (fun M I _ h => quote r.1 (by rw [hr1.1]; decide) (by rw [hr1.1]; decide) (by rw [hr1.1]; decide) _ M I h) fun _ w8 _ H9 => ?_
      refine Exists.intro () (And.intro (congrArg Value.bool ?_) (And.intro trivial (Hp.keep H9)))
      show (r.1.fees + r.1.int + r.1.prin == 120000) = true
      rw [hr1.1]
      decide
    · exfalso
      have q2 : (r.1.status == 1) = false := q2
      rw [hr1.1] at q2
      cases q2
  · exfalso
    have q : ((r.2.es.length : Int) == 1) = false := q
    rw [hlen] at q
    cases q
end Go.Proofs.YtjlfjjgjghdokaaGreatDoor
