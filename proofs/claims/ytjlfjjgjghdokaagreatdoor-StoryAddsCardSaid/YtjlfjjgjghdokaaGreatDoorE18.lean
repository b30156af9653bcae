/- All is accounted for: the walk of StoryAdds. -/
import Derived.Test.YtjlfjjgjghdokaaGreatDoorE16
import Derived.Test.YtjlfjjgjghdokaaGreatDoorE17
import Derived.Test.YtjlfjjgjghdokaaGreatDoorK13
import Derived.Test.YtjlfjjgjghdokaaGreatDoorK14
set_option linter.unusedVariables false
namespace Go.Proofs.YtjlfjjgjghdokaaGreatDoor
open Go Go.Proofs Go.Wk
@[reducible] def iV (n : Int) : Value := .int .i64 n
theorem same_key (k : Key) : Instr.sameBits 10000 (keyV k) (keyV k) = true := by
  show Instr.sameBits (9999 + 1) _ _ = true
  generalize 9999 = d
  simp [Instr.sameBits]
theorem keyKeys : Keys Tryz.prog 68 keyV :=
  struct_keys tok (fun k : Key => #[.int .u32 k.loan, .int .i32 k.day, .int .u8 k.kind, .int .u32 k.seq]) (fun _ => rfl) rfl Tryz.stoodInHeld68 (fun a b => ⟨eqK a b, rfl, eqK_iff⟩) same_key
theorem of_ (k : Key) (A : Option Addr) (n c : Nat) (ls : List Leg) (a : Int) (w : World) (M I : BS) (H : Hp ⟨w, M, I⟩ [] [Sl legR (.slice A n c) ls] w) :
    Ctr Tryz.prog 21 [.agg #[.int .u32 k.loan, .int .i32 k.day, .int .u8 k.kind, .int .u32 k.seq, .slice A n c], .int .u8 a] w M I (fun _ : Unit => .int .i64 (ofV a ls)) (fun _ => True) (fun _ => []) (fun _ => []) := by
  obtain ⟨hn, hc, hc2⟩ := H.sll (A := A) (n := n) (c := c) (r := legR) (xs := ls)
  refine Exe.of_ev tok Tryz.call21 Tryz.func21 rfl rfl rfl ?_
  refine box_as H (entC k A n c) rfl fun x w1 H1 => ?_
  refine load_rule tok H1 (v := .slice A n c) rfl ?_
  refine loop_rule tok (σ := Nat) 2096208 (fun i => [(10, .int .i64 i)])
    (fun i w' => i ≤ n ∧ ofV a ls = ofV a (ls.drop i) ∧ Hp ⟨w, M, I⟩ [blk x (entC k A n c) 71] [Sl legR (.slice A n c) ls] w') (fun i => n - i) 0 rfl rfl ⟨rfl, trivial⟩ ⟨Nat.zero_le _, rfl, H1⟩ ?_
  rintro i j w2 ⟨hi, hg, H2⟩
  refine brd (fun q => ?_) (fun q => ?_)
  · have hil : i < n := by omega
    obtain ⟨u, hu⟩ : ∃ u, ls[i]? = some u := ⟨_, List.getElem?_eq_getElem (by omega)⟩
    have hdu : ls.drop i = u :: ls.drop (i + 1) := by
      rw [List.drop_eq_getElem_cons (by omega)]
      rw [List.getElem?_eq_getElem (by omega)] at hu
      rw [Option.some.inj hu]
    obtain ⟨b1, o1, rfl⟩ := H2.slAt (A := A) (n := n) (c := c) (r := legR) (by omega)
    refine idx_own tok rfl rfl (show (0 : Int) ≤ (i : Int) by omega) q ?_
    refine sl_ld (n := n) (c := c) (j := i) (f := 0) (r := legR) tok H2 (legV u) hu rfl (fun _ _ => rfl) ?_
    refine alloc_as tok H2 [.int .u8 0, .int .i64 0] rfl rfl rfl fun l w3 H3 => ?_
    refine store_as tok H3 [.int .u8 u.acct, .int .i64 u.amt] rfl rfl rfl rfl rfl fun w4 H4 => ?_
    refine load_rule tok H4 (v := .int .u8 u.acct) rfl ?_
    refine brd (fun q3 => ?_) (fun q3 => ?_)
    · refine load_rule tok H4 (v := .int .i64 u.amt) rfl ?_
      refine Exists.intro () (And.intro (congrArg (Value.int .i64) ?_) (And.intro trivial (Hp.keep H4)))
      rw [hg, hdu, ofV, if_pos q3]
    · refine Exists.intro (i + 1) (And.intro ⟨?_, trivial⟩ (And.intro ?_ ⟨?_, ?_, Hp.keep H4⟩))
      · show Value.int .i64 (IntKind.i64.wrap (i + 1)) = _
        rw [w64 (by omega) (by omega)]; rfl
      · omega
      · omega
      · rw [hg, hdu, ofV, if_neg q3]
  · refine Exists.intro () (And.intro (congrArg (Value.int .i64) ?_) (And.intro trivial (Hp.keep H2)))
    rw [hg, List.drop_eq_nil_of_le (by omega)]; rfl
/-! Ten sums. -/
@[reducible] def smC (f : Nat → Int) : List Value := [.int .i64 (f 0), .int .i64 (f 1), .int .i64 (f 2), .int .i64 (f 3), .int .i64 (f 4), .int .i64 (f 5), .int .i64 (f 6), .int .i64 (f 7), .int .i64 (f 8), .int .i64 (f 9)]
theorem smC_get {f : Nat → Int} {j : Nat} (h : j < 10) : ldV (tb 22) (smC f) (0 + j * 1) = some (.int .i64 (f j)) := by
  show (smC f)[0 + j * 1]? = _
  rw [Nat.zero_add, Nat.mul_one]
  have h : j = 0 ∨ j = 1 ∨ j = 2 ∨ j = 3 ∨ j = 4 ∨ j = 5 ∨ j = 6 ∨ j = 7 ∨ j = 8 ∨ j = 9 := by omega
  rcases h with e | e | e | e | e | e | e | e | e | e <;> subst e <;> rfl
theorem smC_set {f g : Nat → Int} {j : Nat} {v : Int} (h : j < 10) (hv : g j = v) (hg : ∀ i, i ≠ j → g i = f i) : setL (smC f) (0 + j * 1) [.int .i64 v] = smC g := by
  show (smC f).set (0 + j * 1) (.int .i64 v) = smC g
  rw [Nat.zero_add, Nat.mul_one, ← hv]
  have h : j = 0 ∨ j = 1 ∨ j = 2 ∨ j = 3 ∨ j = 4 ∨ j = 5 ∨ j = 6 ∨ j = 7 ∨ j = 8 ∨ j = 9 := by omega
  rcases h with e | e | e | e | e | e | e | e | e | e <;> subst e <;> simp [smC, hg]
theorem wrap_add (x y : Int) : IntKind.i64.wrap (IntKind.i64.wrap x + y) = IntKind.i64.wrap (x + y) := by
  simp only [IntKind.wrap, IntKind.signed, IntKind.bits]
  simp
  split <;> split <;> omega
def smF (T : List (Key × List Leg)) (j : Nat) : Int := if j = 0 then 0 else IntKind.i64.wrap (sumE j T)
def mixF (T T2 : List (Key × List Leg)) (a j : Nat) : Int := if j < a then smF T2 j else smF T j
theorem mix_next {T : List (Key × List Leg)} {u : Key × List Leg} {a : Nat} (h0 : 1 ≤ a) (h : a < 10) : setL (smC (mixF T (T ++ [u]) a)) (0 + a * 1) [.int .i64 (IntKind.i64.wrap (mixF T (T ++ [u]) a a + ofV a u.2))] = smC (mixF T (T ++ [u]) (a + 1)) := by
  refine smC_set h ?_ fun i hi => ?_
  · have e1 : mixF T (T ++ [u]) a a = IntKind.i64.wrap (sumE a T) := by
      unfold mixF smF
      rw [if_neg (by omega), if_neg (by omega)]
    have e2 : mixF T (T ++ [u]) (a + 1) a = IntKind.i64.wrap (sumE a (T ++ [u])) := by
      unfold mixF smF
      rw [if_pos (by omega), if_neg (by omega)]
    have e3 : sumE a (T ++ [u]) = sumE a T + ofV a u.2 := by
      rw [sumE_app]
      show _ + (ofV a u.2 + 0) = _
      omega
    rw [e1, e2, wrap_add, e3]
  · unfold mixF
    by_cases q : i < a
    · rw [if_pos q, if_pos (by omega)]
    · rw [if_neg q, if_neg (by omega)]
theorem mix_first (T T2 : List (Key × List Leg)) : smC (mixF T T2 1) = smC (smF T) := by
  unfold smC mixF smF
  simp
theorem mix_last (T T2 : List (Key × List Leg)) : smC (mixF T T2 10) = smC (smF T2) := by
  unfold smC mixF smF
  simp
theorem smC_nil : smC (smF []) = [.int .i64 0, .int .i64 0, .int .i64 0, .int .i64 0, .int .i64 0, .int .i64 0, .int .i64 0, .int .i64 0, .int .i64 0, .int .i64 0] := by
  have e : ∀ j, smF [] j = 0 := fun j => by
    unfold smF
    split
    · rfl
    · rfl
  unfold smC
  simp only [e]
def pdF (T : List (Key × List Leg)) : Int := IntKind.i64.wrap (paidE T)
theorem pdF_pay {T : List (Key × List Leg)} {u : Key × List Leg} (h : u.1.kind = 4) : IntKind.i64.wrap (pdF T + ofV 1 u.2) = pdF (T ++ [u]) := by
  unfold pdF
  rw [wrap_add, paidE_app]
  show _ = IntKind.i64.wrap (paidE T + ((if u.1.kind = 4 then ofV 1 u.2 else 0) + 0))
  rw [if_pos h, Int.add_zero]
theorem pdF_not {T : List (Key × List Leg)} {u : Key × List Leg} (h : u.1.kind ≠ 4) : pdF T = pdF (T ++ [u]) := by
  unfold pdF
  rw [paidE_app]
  show _ = IntKind.i64.wrap (paidE T + ((if u.1.kind = 4 then ofV 1 u.2 else 0) + 0))
  rw [if_neg h, Int.add_zero, Int.add_zero]
def seenL (T : List (Key × List Leg)) : List (Key × Int) := T.map fun p => (p.1, 1)
theorem seen_new {T : List (Key × List Leg)} {u : Key × List Leg} (h : ((T ++ [u]).map Prod.fst).Nodup) : lkI u.1 (seenL T) 0 = none := by
  have hn : u.1 ∉ T.map Prod.fst := by
    rw [List.map_append] at h
    have h2 := (List.nodup_append.1 h).2.2
    intro hm
    exact h2 _ hm u.1 (by simp) rfl
  have gen : ∀ (T : List (Key × List Leg)) (i : Nat), u.1 ∉ T.map Prod.fst → lkI u.1 (seenL T) i = none := by
    intro T
    induction T with
    | nil => intro i _; rfl
    | cons p r ih =>
      intro i hm
      rw [List.map_cons, List.mem_cons, not_or] at hm
      show (if p.1 = u.1 then _ else lkI u.1 (seenL r) (i + 1)) = none
      rw [if_neg (fun e => hm.1 e.symm)]
      exact ih (i + 1) hm.2
  exact gen T 0 hn
theorem seen_lk {T : List (Key × List Leg)} {k : Key} (h : lkI k (seenL T) 0 = none) : Value.int .i64 0 = ((lk k (seenL T)).map iV).getD (.int .i64 0) := by
  have e := lkI_lk k (seenL T) 0
  rw [h] at e
  rw [← e]
  rfl
theorem seen_snoc (T : List (Key × List Leg)) (u : Key × List Leg) : seenL T ++ [(u.1, 1)] = seenL (T ++ [u]) := by
  unfold seenL
  rw [List.map_append]
  rfl
theorem seen_len (T : List (Key × List Leg)) : (seenL T).length = T.length := List.length_map ..
theorem kl_take {es : List En} {i : Nat} {u : En} (h : es[i]? = some u) : (es.map kl).take (i + 1) = (es.map kl).take i ++ [kl u] := by
  obtain ⟨hi, e⟩ := List.getElem?_eq_some_iff.1 h
  rw [List.take_succ_eq_append_getElem (by rw [List.length_map]; exact hi), List.getElem_map, e]
theorem nd_take {E : List (Key × List Leg)} (h : (E.map Prod.fst).Nodup) (i : Nat) : ((E.take i).map Prod.fst).Nodup := by
  rw [List.map_take]
  exact h.sublist (List.take_sublist _ _)
structure AddsE (t : Tm) (x : St) (E : List (Key × List Leg)) : Prop where
  acc : Acc t.prin x E
  nd : (E.map Prod.fst).Nodup
  fees : 0 ≤ x.fees ∧ x.fees ≤ 10000000000000000
  int : 0 ≤ x.int ∧ x.int ≤ 10000000000000000
  prin : 0 ≤ x.prin ∧ x.prin ≤ 10000000000000000
  susp : 0 ≤ x.susp ∧ x.susp ≤ 10000000000000000
  recv : 0 ≤ x.recv ∧ x.recv ≤ 10000000000000000
  cash : 0 ≤ x.cash ∧ x.cash ≤ 10000000000000000
theorem sum_sm {a : Nat} {E : List (Key × List Leg)} {v : Int} (h0 : 1 ≤ a) (h : sumE a E = v) (h1 : -9000000000000000000 ≤ v) (h2 : v ≤ 9000000000000000000) : smF E a = v := by
  unfold smF
  rw [if_neg (by omega), h]
  exact i64w h1 h2
theorem six {a b c d e f : Int} (ha : sml a) (hb : sml b) (hc : sml c) (hd : sml d) (he : sml e) (hf : sml f) (h : a + b + c + d + e + f = 0) : (!(IntKind.i64.wrap (IntKind.i64.wrap (IntKind.i64.wrap (IntKind.i64.wrap (IntKind.i64.wrap (a + b) + c) + d) + e) + f) == 0)) = false := by
  unfold sml at ha hb hc hd he hf
  rw [i64w (n := a + b) (by omega) (by omega), i64w (n := a + b + c) (by omega) (by omega), i64w (n := a + b + c + d) (by omega) (by omega), i64w (n := a + b + c + d + e) (by omega) (by omega), i64w (n := a + b + c + d + e + f) (by omega) (by omega), h]
  rfl
set_option maxHeartbeats 4000000 in
set_option maxRecDepth 20000 in
theorem addsWalk (t : Tm) (hin : TmIn t) (A : Option Addr) (n c : Nat) (ds : List Deed) (dn : Int) (hd : inK .u16 dn) (w : World) (M I : BS) (hM : ∀ b, ¬ M b) (H : Hp ⟨w, M, I⟩ [] [Sl deedR (.slice A n c) ds, LibF] w) :
    Ctr Tryz.prog 5 [tmV t, .slice A n c, .int .u16 dn] w M I (fun _ : Unit => .bool true) (fun _ => True) (fun _ => []) (fun _ => []) := by
  have hd0 : 0 ≤ dn := hd.1
  have hdok := deeds_ok H (A := A) (n := n) (c := c) (ds := ds)
  refine Exe.of_ev tok Tryz.call5 Tryz.func5 rfl rfl rfl ?_
  refine box_as H (tmC t) rfl fun r w1 H1 => ?_
  refine call_rule H1 (fun M I h0 h => awake17 _ M I (h0 rfl) h) fun _ w2 _ H2 => ?_
  refine load_rule tok H2 (v := tmV t) rfl ?_
  refine call_rule H2 (fun M I _ h => ownTm t hin _ M I h) fun _ w3 _ H3 => ?_
  refine call_rule H3 (fun M I _ h => refRight t hin _ M I h) fun _ w4 _ H4 => ?_
  refine br (fun q => ?_) (fun q => ?_)
  · exact Exists.intro () (And.intro rfl (And.intro trivial (Hp.keep H4)))
  have q : rtB t = true := by have q : (!rtB t) = false := q; simpa using q
  have hb : tmB t = true := by rw [← rtB_eq]; exact q
  have ok := tmB_iff.1 hb
  have hst := ok.start
  have hpr := ok.prin
  have H4 : Hp ⟨w, M, I⟩ [blk r (tmC t) 28] [Sl dayR (.slice none 0 0) [], Sl deedR (.slice A n c) ds] w4 := Hp.keep (Hp.slNil dayR H4)
  refine load_rule tok H4 (v := tmV t) rfl ?_
  refine call_rule H4 (fun M I h0 h => storyNew 1 t hin none 0 0 [] hb (by decide) _ M I (h0 rfl) h) fun a w5 ha H5 => ?_
  have hS := sto_ok (loan := 1) hin ok ha
  refine Exists.elim (show ∃ S : Sto, S = ⟨1, t, a.2.2⟩ from ⟨_, rfl⟩) fun S eS => ?_
  rw [← eS] at hS
  have hSt : S.t = t := by rw [eS]
  have H5 : Hp ⟨w, M, I⟩ [blk a.1 (stoC S a.2.1) 120, blk r (tmC t) 28] [Sl dueR (.slice a.2.1.A a.2.1.n a.2.1.c) S.dues, Sl deedR (.slice A n c) ds] w5 := by
    rw [eS]
    exact Hp.keep H5
  refine load_rule tok H5 (v := tmV t) rfl ?_
  refine call_rule H5 (fun M I _ h => eventsL t hst A n c ds _ M I h) fun x w6 hx H6 => ?_
  refine Exists.elim (show ∃ m, m = min ds.length 12 from ⟨_, rfl⟩) fun m hm => ?_
  rw [← hm] at hx H6
  have hm12 : m ≤ 12 := by omega
  have H7 : Hp ⟨w, M, I⟩ [blk a.1 (stoC S a.2.1) 120, blk r (tmC t) 28] [Sl evR (.slice x.1.A x.1.n x.1.c) (evL t ds m), Sl dueR (.slice a.2.1.A a.2.1.n a.2.1.c) S.dues] w6 := Hp.keep (frzEvs (v := .slice x.1.A x.1.n x.1.c) H6 (evL t ds m) hM)
  refine Exists.elim (show ∃ k : Nat, (k : Int) = dn % 130 from ⟨(dn % 130).toNat, by omega⟩) fun k ek => ?_
  have hk : k < 130 := by omega
  have er : dn.tmod 130 = (k : Int) := by rw [Int.tmod_eq_emod_of_nonneg hd0]; omega
  have eth : IntKind.i32.wrap (t.start + IntKind.i32.wrap (k : Int)) = t.start + (k : Int) := by rw [i32w (n := (k : Int)) (by omega) (by omega)]; exact i32w (by omega) (by omega)
  have hlok := evL_ok t ds m (by omega) hdok
  have hamt : ∀ e, e ∈ evL t ds m → EvA e := fun e he => (hlok.ev e he).1
  refine load_rule tok H7 (v := .int .i32 t.start) rfl ?_
  refine rem_as ((k : Nat) : Int) (by decide) er ?_
  refine call_rule H7 (fun M I _ h => eth.symm ▸ tell a.1 S hS a.2.1 x.1.A x.1.n x.1.c (evL t ds m) (by rw [evL_len]; omega) hamt (t.start + (k : Int)) (by rw [hSt]; omega) (by omega) _ M I h) fun e w9 he H10 => ?_
  refine alloc_as tok H10 (stC st0) rfl rfl rfl fun z w10 H11 => ?_
  refine store_as tok H11 (stC e.1) rfl rfl rfl rfl rfl fun w11 H12 => ?_
  have hadd : AddsE t e.1 (e.2.es.map kl) := by
    obtain ⟨l1, p1, s1, a1, b1⟩ := he
    have ll : l1.length ≤ 19 := by rw [p1.length_eq, evL_len]; omega
    have hl := adds_law hS (k := k) (by omega) ll (hlok.perm p1)
    have em : mn (t.start + (k : Int)) 3640000 = S.t.start + (k : Int) := by unfold mn; rw [if_neg (by omega), hSt]
    rw [eth, em] at a1 b1
    rw [a1, b1]
    have hacc := hl.acc
    have e9 : S.t.prin = t.prin := by rw [hSt]
    rw [e9] at hacc
    have hs := hl.st
    exact ⟨hacc, hl.nd, hs.fees, hs.int, ⟨hs.prin.1, by have := hs.prin.2; omega⟩, hs.susp, hs.recv, hs.cash⟩
  refine Exists.elim (show ∃ E, E = e.2.es.map kl from ⟨_, rfl⟩) fun E eE => ?_
  rw [← eE] at hadd
  have hacc := hadd.acc
  have hEl : E.length = e.2.es.length := by rw [eE, List.length_map]
  refine makeSlice_rule (n := 10) tok H12 [.int .i64 0, .int .i64 0, .int .i64 0, .int .i64 0, .int .i64 0, .int .i64 0, .int .i64 0, .int .i64 0, .int .i64 0, .int .i64 0] rfl rfl rfl (by kernel_rfl) rfl rfl rfl fun g w12 H13 => ?_
  refine makeMap_rule H13 keyV iV fun mp w13 H14 => ?_
  have H14 : Hp ⟨w, M, I⟩ [mapO mp keyV iV (seenL (E.take 0)), blk g (smC (smF (E.take 0))) 22, row 71 5 (.slice e.2.A e.2.es.length e.2.c) e.2.es.length (ensC e.2.es), blk z (stC e.1) 44, blk r (tmC t) 28] [EnF e.2.es] w13 := by
    have e8 : seenL [] = [] := rfl
    rw [List.take_zero, smC_nil, e8]
    exact Hp.keep H14
  have H15 : Hp ⟨w, M, I⟩ [row 22 1 (.slice (some ⟨g, 0, none⟩) 10 10) 10 (smC (smF (E.take 0))), mapO mp keyV iV (seenL (E.take 0)), row 71 5 (.slice e.2.A e.2.es.length e.2.c) e.2.es.length (ensC e.2.es), blk z (stC e.1) 44, blk r (tmC t) 28] [EnF e.2.es] w13 := Hp.keep (Hp.toRow (g := g) (e := 22) H14 1 10 rfl (by decide))
  have hmx : e.2.es.length ≤ 9223372036854775807 := by
    refine Exists.elim (Hp.own (A := row 71 5 (.slice e.2.A e.2.es.length e.2.c) e.2.es.length (ensC e.2.es)) H15) fun fa hfa => ?_
    refine Exists.elim (row_shape hfa) fun A' h => Exists.elim h fun c' h => ?_
    exact Nat.le_trans h.2.1 h.2.2.1
  refine loop_out tok (σ := Nat) (τ := Unit) 324518553658426708768757511503936 0 (fun i => [(14, .int .i64 (pdF (E.take i))), (54, .int .i64 (i : Int))]) (fun i w' => i ≤ e.2.es.length ∧ Hp ⟨w, M, I⟩ [row 22 1 (.slice (some ⟨g, 0, none⟩) 10 10) 10 (smC (smF (E.take i))), mapO mp keyV iV (seenL (E.take i)), row 71 5 (.slice e.2.A e.2.es.length e.2.c) e.2.es.length (ensC e.2.es), blk z (stC e.1) 44, blk r (tmC t) 28] [EnF e.2.es] w') (fun i => e.2.es.length - i) 0
    (fun _ => [(14, .int .i64 (pdF E))]) (fun _ w' => Hp ⟨w, M, I⟩ [row 22 1 (.slice (some ⟨g, 0, none⟩) 10 10) 10 (smC (smF E)), mapO mp keyV iV (seenL E), row 71 5 (.slice e.2.A e.2.es.length e.2.c) e.2.es.length (ensC e.2.es), blk z (stC e.1) 44, blk r (tmC t) 28] [] w') rfl rfl ⟨rfl, rfl, trivial⟩ ⟨Nat.zero_le _, H15⟩ ?_ ?_
  · intro i j2 wb hW2
    have hil := hW2.1
    have Hb := hW2.2
    refine brd (fun q2 => ?_) (fun q2 => ?_)
    · have hi : i < e.2.es.length := Int.ofNat_lt.1 q2
      have ew : IntKind.i64.wrap ((i : Int) + 1) = ((i + 1 : Nat) : Int) := w64 (by omega) (by omega)
      have i0 : (0 : Int) ≤ (i : Int) := Int.natCast_nonneg _
      refine Exists.elim (show ∃ u, e.2.es[i]? = some u from ⟨_, List.getElem?_eq_getElem hi⟩) fun u hu => ?_
      refine Exists.elim (row_at (A := e.2.A) (n := e.2.es.length) (c := e.2.c) Hb (by omega)) fun g1 hA1 => ?_
      have Hb2 := hpEn Hb e.2.es hu
      have hT : E.take (i + 1) = E.take i ++ [kl u] := by rw [eE]; exact kl_take hu
      refine Exists.elim (show ∃ T, T = E.take i from ⟨_, rfl⟩) fun T eT => ?_
      rw [← eT] at hT Hb2
      have hok : EntOk (kl u) := hacc.ok _ (by rw [eE]; exact List.mem_map_of_mem (List.mem_of_getElem? hu))
      have hnd := nd_take hadd.nd (i + 1)
      rw [hT] at hnd
      have hnew : lkI u.k (seenL T) 0 = none := seen_new hnd
      have hlk := seen_lk hnew
      have hright : (!rightB u.k u.ls) = false := by rw [show rightB u.k u.ls = true from hok.right]; rfl
      refine idx_ownA tok hA1 rfl rfl i0 q2 ?_
      refine row_ldA (A := e.2.A) (n := e.2.es.length) (c := e.2.c) tok Hb2 (enV u) hA1 (ens_get hu) ?_
      refine alloc_as tok Hb2 [.int .u32 0, .int .i32 0, .int .u8 0, .int .u32 0, .slice none 0 0] rfl rfl rfl fun y wc Hc => ?_
      refine store_as tok Hc (enC u) rfl rfl rfl rfl rfl fun wd Hd => ?_
      refine load_rule tok Hd (v := enV u) rfl ?_
      refine call_rule Hd (fun M I _ h => right u.k hok.kind u.s.A u.s.n u.s.c u.ls _ M I h) fun _ we _ He => ?_
      refine br (fun q3 => absurd (hright.symm.trans q3) (by decide)) (fun _ => ?_)
      have He : Hp ⟨w, M, I⟩ [mapO mp keyV iV (seenL T), row 22 1 (.slice (some ⟨g, 0, none⟩) 10 10) 10 (smC (smF T)), blk y (enC u) 71, row 71 5 (.slice e.2.A e.2.es.length e.2.c) e.2.es.length (ensC e.2.es), blk z (stC e.1) 44, blk r (tmC t) 28] [Sl legR (.slice u.s.A u.s.n u.s.c) u.ls, EnF e.2.es] we := Hp.keep He
      refine draw_rule (A := [mapO mp keyV iV (seenL T)]) tok tdr He [0, 1, 2, 5, 3, 4, 6, 7] [0, 0, 2, 7, 15, 7, 39, 127] rfl ?_
      refine pass_rule _ (fun w h => load_rule tok h (v := keyV u.k) rfl ⟨rfl, rfl⟩) ?_
      refine imp_rule (fun X wx hw => mapEntry_new (z := (0 : Int)) (k := u.k) tok hw rfl rfl rfl keyKeys rfl hnew fun cl w' H' => imp_done H' ?_)
      refine pass_two (.int .i64 0) (fun X w h => lookup_new (kf := keyV) (vf := iV) (l := seenL T) (k := u.k) (z := (0 : Int)) (c := cl) tok h rfl rfl rfl keyKeys rfl hnew rfl ⟨rfl, rfl⟩) (fun X w h => lookup_rule (k := u.k) tok h rfl rfl rfl keyKeys rfl hlk ⟨rfl, rfl⟩) ?_
      refine imp_rule (fun X wx hw => entryStore_new (kf := keyV) (vf := iV) (l := seenL T) (k := u.k) (z := (0 : Int)) (c := cl) (v := (1 : Int)) hw rfl fun w' H' => imp_done H' ?_)
      refine done_rule fun wf Hf => ?_
      have Hf : Hp ⟨w, M, I⟩ [row 22 1 (.slice (some ⟨g, 0, none⟩) 10 10) 10 (smC (mixF T (T ++ [kl u]) 1)), mapO mp keyV iV (seenL (T ++ [kl u])), blk y (enC u) 71, row 71 5 (.slice e.2.A e.2.es.length e.2.c) e.2.es.length (ensC e.2.es), blk z (stC e.1) 44, blk r (tmC t) 28] [Sl legR (.slice u.s.A u.s.n u.s.c) u.ls, EnF e.2.es] wf := by
        have e7 : seenL T ++ [(u.k, 1)] = seenL (T ++ [kl u]) := seen_snoc T (kl u)
        rw [mix_first, ← e7]
        exact Hp.keep Hf
      refine loop_out tok (σ := Nat) (τ := Unit) 2417556491324078996848640 2 (fun a => [(18, .int .u8 (a : Int))]) (fun a w' => 1 ≤ a ∧ a ≤ 10 ∧ Hp ⟨w, M, I⟩ [row 22 1 (.slice (some ⟨g, 0, none⟩) 10 10) 10 (smC (mixF T (T ++ [kl u]) a)), mapO mp keyV iV (seenL (T ++ [kl u])), blk y (enC u) 71, row 71 5 (.slice e.2.A e.2.es.length e.2.c) e.2.es.length (ensC e.2.es), blk z (stC e.1) 44, blk r (tmC t) 28] [Sl legR (.slice u.s.A u.s.n u.s.c) u.ls, EnF e.2.es] w') (fun a => 10 - a) 1
        (fun _ => []) (fun _ w' => Hp ⟨w, M, I⟩ [row 22 1 (.slice (some ⟨g, 0, none⟩) 10 10) 10 (smC (smF (T ++ [kl u]))), mapO mp keyV iV (seenL (T ++ [kl u])), blk y (enC u) 71, row 71 5 (.slice e.2.A e.2.es.length e.2.c) e.2.es.length (ensC e.2.es), blk z (stC e.1) 44, blk r (tmC t) 28] [Sl legR (.slice u.s.A u.s.n u.s.c) u.ls, EnF e.2.es] w') rfl rfl ⟨rfl, trivial⟩ ⟨Nat.le_refl _, by decide, Hf⟩ ?_ ?_
      · intro a j3 wg hW3
        have ha1 := hW3.1
        have ha2 := hW3.2.1
        have Hg := hW3.2.2
        refine brd (fun q4 => ?_) (fun q4 => ?_)
        · have ha : a < 10 := by
            have q4 : (a : Int) < 10 := q4
            omega
          have ea : IntKind.u8.wrap ((a : Int) + 1) = ((a + 1 : Nat) : Int) := wrap_id ⟨by show (0 : Int) ≤ (a : Int) + 1; omega, by show (a : Int) + 1 ≤ 255; omega⟩
          have a0 : (0 : Int) ≤ (a : Int) := Int.natCast_nonneg _
          have a9 : (a : Int) < ((10 : Nat) : Int) := by omega
          have hget : ldV (tb 22) (smC (mixF T (T ++ [kl u]) a)) (0 + ((a : Int)).toNat * 1) = some (.int .i64 (mixF T (T ++ [kl u]) a a)) := smC_get ha
          have hset := mix_next (T := T) (u := kl u) ha1 ha
          have hb1 : 0 + ((a : Int)).toNat * 1 + 1 ≤ (smC (mixF T (T ++ [kl u]) a)).length := by show 0 + a * 1 + 1 ≤ 10; omega
          refine draw_rule (A := [row 22 1 (.slice (some ⟨g, 0, none⟩) 10 10) 10 (smC (mixF T (T ++ [kl u]) a))]) tok tdr Hg [4, 5, 6, 0, 1, 2, 3, 7, 8, 9] [0, 0, 3, 7, 0, 0, 48, 127, 255, 511] rfl ?_
          refine pass_rule _ (fun w h => load_rule tok h (v := enV u) rfl ⟨rfl, rfl⟩) ?_
          refine imp_rule (fun X wx hw => call_rule hw (fun M I _ h => of_ u.k u.s.A u.s.n u.s.c u.ls (a : Int) _ M I h) fun _ w1 _ H1 => imp_done H1 ?_)
          refine pass_rule _ (fun w h => idx_own tok rfl rfl a0 a9 ⟨rfl, rfl⟩) ?_
          refine pass_kept [row 22 1 (.slice (some ⟨g, 0, none⟩) 10 10) 10 (smC (mixF T (T ++ [kl u]) a))] _ (fun X w h => row_ld tok h (.int .i64 (mixF T (T ++ [kl u]) a a)) hget ⟨rfl, rfl⟩) ?_
          refine pass_rule _ (fun w h => idx_own tok rfl rfl a0 a9 ⟨rfl, rfl⟩) ?_
          refine imp_rule (fun X wx hw => row_st tok hw rfl rfl hb1 rfl fun w' H' => imp_done H' ?_)
          refine done_rule fun wh Hh => ?_
          have Hh : Hp ⟨w, M, I⟩ [row 22 1 (.slice (some ⟨g, 0, none⟩) 10 10) 10 (smC (mixF T (T ++ [kl u]) (a + 1))), mapO mp keyV iV (seenL (T ++ [kl u])), blk y (enC u) 71, row 71 5 (.slice e.2.A e.2.es.length e.2.c) e.2.es.length (ensC e.2.es), blk z (stC e.1) 44, blk r (tmC t) 28] [Sl legR (.slice u.s.A u.s.n u.s.c) u.ls, EnF e.2.es] wh := by
            rw [← hset]
            exact Hh
          refine Exists.intro (a + 1) (And.intro ⟨congrArg (Value.int .u8) ea, trivial⟩ (And.intro ?_ ⟨?_, ?_, Hh⟩))
          · show 10 - (a + 1) < 10 - a
            omega
          · omega
          · omega
        · have ha : a = 10 := by
            have q4 : ¬ (a : Int) < 10 := q4
            omega
          have Hg : Hp ⟨w, M, I⟩ [row 22 1 (.slice (some ⟨g, 0, none⟩) 10 10) 10 (smC (smF (T ++ [kl u]))), mapO mp keyV iV (seenL (T ++ [kl u])), blk y (enC u) 71, row 71 5 (.slice e.2.A e.2.es.length e.2.c) e.2.es.length (ensC e.2.es), blk z (stC e.1) 44, blk r (tmC t) 28] [Sl legR (.slice u.s.A u.s.n u.s.c) u.ls, EnF e.2.es] wg := by
            have e10 : smC (mixF T (T ++ [kl u]) a) = smC (smF (T ++ [kl u])) := by rw [ha]; exact mix_last T _
            rw [← e10]
            exact Hg
          exact Exists.intro () (And.intro trivial Hg)
      · intro _ j4 wi Hi
        refine load_rule tok Hi (v := .int .u8 u.k.kind) rfl ?_
        refine br (fun q5 => ?_) (fun q5 => ?_)
        · have q5 : u.k.kind = 4 := eq_of_beq q5
          have hpd := pdF_pay (T := T) (u := kl u) q5
          rw [← hT] at hpd
          have h6 := six (hok.amt 1) (hok.amt 4) (hok.amt 3) (hok.amt 2) (hok.amt 5) (hok.amt 9) (hok.pay q5)
          refine load_rule tok Hi (v := enV u) rfl ?_
          refine call_rule Hi (fun M I _ h => of_ u.k u.s.A u.s.n u.s.c u.ls 1 _ M I h) fun _ wj _ Hj => ?_
          have Hj : Hp ⟨w, M, I⟩ [row 22 1 (.slice (some ⟨g, 0, none⟩) 10 10) 10 (smC (smF (T ++ [kl u]))), mapO mp keyV iV (seenL (T ++ [kl u])), blk y (enC u) 71, row 71 5 (.slice e.2.A e.2.es.length e.2.c) e.2.es.length (ensC e.2.es), blk z (stC e.1) 44, blk r (tmC t) 28] [Sl legR (.slice u.s.A u.s.n u.s.c) u.ls, EnF e.2.es] wj := Hp.keep Hj
          refine draw_rule (A := []) tok tdr Hj [0, 1, 2, 3, 5, 6, 8, 9, 11, 12, 14, 15, 4, 7, 10, 13, 16, 17] [0, 1, 0, 7, 15, 0, 47, 127, 0, 367, 1023, 0, 2927, 8191, 0, 23407, 65535, 131071] rfl ?_
          refine pass_rule _ (fun w h => load_rule tok h (v := enV u) rfl ⟨rfl, rfl⟩) ?_
          refine imp_rule (fun X wx hw => call_rule hw (fun M I _ h => of_ u.k u.s.A u.s.n u.s.c u.ls 1 _ M I h) fun _ w1 _ H1 => imp_done H1 ?_)
          refine pass_rule _ (fun w h => load_rule tok h (v := enV u) rfl ⟨rfl, rfl⟩) ?_
          refine imp_rule (fun X wx hw => call_rule hw (fun M I _ h => of_ u.k u.s.A u.s.n u.s.c u.ls 4 _ M I h) fun _ w1 _ H1 => imp_done H1 ?_)
          refine pass_rule _ (fun w h => load_rule tok h (v := enV u) rfl ⟨rfl, rfl⟩) ?_
          refine imp_rule (fun X wx hw => call_rule hw (fun M I _ h => of_ u.k u.s.A u.s.n u.s.c u.ls 3 _ M I h) fun _ w1 _ H1 => imp_done H1 ?_)
          refine pass_rule _ (fun w h => load_rule tok h (v := enV u) rfl ⟨rfl, rfl⟩) ?_
          refine imp_rule (fun X wx hw => call_rule hw (fun M I _ h => of_ u.k u.s.A u.s.n u.s.c u.ls 2 _ M I h) fun _ w1 _ H1 => imp_done H1 ?_)
          refine pass_rule _ (fun w h => load_rule tok h (v := enV u) rfl ⟨rfl, rfl⟩) ?_
          refine imp_rule (fun X wx hw => call_rule hw (fun M I _ h => of_ u.k u.s.A u.s.n u.s.c u.ls 5 _ M I h) fun _ w1 _ H1 => imp_done H1 ?_)
          refine pass_rule _ (fun w h => load_rule tok h (v := enV u) rfl ⟨rfl, rfl⟩) ?_
          refine imp_rule (fun X wx hw => call_rule hw (fun M I _ h => of_ u.k u.s.A u.s.n u.s.c u.ls 9 _ M I h) fun _ w1 _ H1 => imp_done H1 ?_)
          refine done_rule fun wk Hk => ?_
          refine br (fun q6 => absurd (h6.symm.trans q6) (by decide)) (fun _ => ?_)
          refine Exists.intro (i + 1) (And.intro ⟨congrArg (Value.int .i64) (by rw [eT] at hpd; exact hpd), congrArg (Value.int .i64) ew, trivial⟩ (And.intro ?_ ⟨?_, ?_⟩))
          · show e.2.es.length - (i + 1) < e.2.es.length - i
            omega
          · omega
          · show Hp ⟨w, M, I⟩ [row 22 1 (.slice (some ⟨g, 0, none⟩) 10 10) 10 (smC (smF (E.take (i + 1)))), mapO mp keyV iV (seenL (E.take (i + 1))), row 71 5 (.slice e.2.A e.2.es.length e.2.c) e.2.es.length (ensC e.2.es), blk z (stC e.1) 44, blk r (tmC t) 28] [EnF e.2.es] wk
            rw [hT]
            exact Hp.keep Hk
        · have q5 : u.k.kind ≠ 4 := ne_of_beq_false q5
          have hpd := pdF_not (T := T) (u := kl u) q5
          rw [← hT] at hpd
          refine Exists.intro (i + 1) (And.intro ⟨congrArg (Value.int .i64) (by rw [eT] at hpd; exact hpd), congrArg (Value.int .i64) ew, trivial⟩ (And.intro ?_ ⟨?_, ?_⟩))
          · show e.2.es.length - (i + 1) < e.2.es.length - i
            omega
          · omega
          · show Hp ⟨w, M, I⟩ [row 22 1 (.slice (some ⟨g, 0, none⟩) 10 10) 10 (smC (smF (E.take (i + 1)))), mapO mp keyV iV (seenL (E.take (i + 1))), row 71 5 (.slice e.2.A e.2.es.length e.2.c) e.2.es.length (ensC e.2.es), blk z (stC e.1) 44, blk r (tmC t) 28] [EnF e.2.es] wi
            rw [hT]
            exact Hp.keep Hi
    · have hie : i = E.length := by
        have q2 : ¬ (i : Int) < (e.2.es.length : Int) := q2
        omega
      have hall : E.take i = E := by rw [hie]; exact List.take_length
      rw [hall] at Hb
      refine Exists.intro () (And.intro ⟨congrArg (fun l => Value.int .i64 (pdF l)) hall, trivial⟩ (Hp.keep Hb))
  intro _ j5 wl Hl
  have g0 : (((seenL E).length : Int) == (e.2.es.length : Int)) = true := by rw [seen_len, hEl]; simp
  have hxc := hadd.cash
  have hxp := hadd.prin
  have hxi := hadd.int
  have hxf := hadd.fees
  have hxs := hadd.susp
  have hxr := hadd.recv
  have g1 : (pdF E == e.1.cash) = true := by
    unfold pdF
    rw [hacc.paid, i64w (by omega) (by omega)]
    simp
  have g2 : (smF E 1 == IntKind.i64.wrap (e.1.cash - t.prin)) = true := by
    rw [sum_sm (by decide) hacc.cash (by omega) (by omega), i64w (by omega) (by omega)]
    simp
  have g3 : (smF E 2 == e.1.prin) = true := by rw [sum_sm (by decide) hacc.prin (by omega) (by omega)]; simp
  have g4 : (smF E 3 == e.1.int) = true := by rw [sum_sm (by decide) hacc.int (by omega) (by omega)]; simp
  have g5 : (smF E 4 == e.1.fees) = true := by rw [sum_sm (by decide) hacc.fees (by omega) (by omega)]; simp
  have g6 : (smF E 5 == IntKind.i64.wrap (0 - e.1.susp)) = true := by rw [sum_sm (by decide) hacc.susp (by omega) (by omega), i64w (by omega) (by omega)]; simp
  have g7 : (smF E 9 == IntKind.i64.wrap (0 - e.1.recv)) = true := by rw [sum_sm (by decide) hacc.recv (by omega) (by omega), i64w (by omega) (by omega)]; simp
  have g8 : (e.1.fees + e.1.int + e.1.prin == IntKind.i64.wrap (IntKind.i64.wrap (e.1.fees + e.1.int) + e.1.prin)) = true := by
    rw [i64w (n := e.1.fees + e.1.int) (by omega) (by omega), i64w (n := e.1.fees + e.1.int + e.1.prin) (by omega) (by omega)]
    simp
  refine draw_rule (A := []) tok tdr Hl [0, 1, 2, 3, 4, 5, 6, 7, 8, 9, 10, 11, 12, 13, 14, 15, 16, 17, 18, 19, 20, 21, 22, 23, 24, 25, 26, 27, 28, 29, 30, 31, 32, 33, 34, 35, 36, 37, 38, 39, 40, 41, 42, 43, 44, 45, 46, 47, 48, 49, 50, 51, 52, 53, 54, 55, 56, 57, 58, 59, 60, 61, 62, 63, 64, 65, 66, 67, 68, 69, 70, 71, 72, 73, 74, 75, 76, 77, 78, 79, 80, 81, 82, 83, 84, 85, 86, 87, 88] [0, 1, 0, 4, 15, 31, 63, 63, 191, 511, 1023, 2047, 4095, 8191, 16383, 4095, 36863, 4095, 135167, 495615, 1048575, 2097151, 4194303, 8388607, 16777215, 33554431, 8388607, 75497471, 209715199, 536870911, 1073741823, 2147483647, 4294967295, 8589934591, 17179869183, 4294967295, 38654705663, 107374182399, 274877906943, 549755813887, 1099511627775, 2199023255551, 4398046511103, 8796093022207, 2199023255551, 19791209299967, 54975581388799, 140737488355327, 281474976710655, 562949953421311, 1125899906842623, 2251799813685247, 4503599627370495, 1125899906842623, 10133099161583615, 28147497671065599, 72057594037927935, 144115188075855871, 288230376151711743, 576460752303423487, 1152921504606846975, 2305843009213693951, 576460752303423487, 5188146770730811391, 14411518807585587199, 36893488147419103231, 73786976294838206463, 147573952589676412927, 295147905179352825855, 590295810358705651711, 1180591620717411303423, 2361183241434822606847, 4722366482869645213695, 9444732965739290427391, 18889465931478580854783, 9444732965739290427391, 47223664828696452136959, 122781528554610775556095, 9444732965739290427391, 311676187869396584103935, 916139097676711171457023, 2389517440332040478130175, 9444732965739290427391, 4845148011424255989252095, 14516554568341289386901503, 38657292028770915719315455, 77371252455336267181195263, 154742504910672534362390527, 309485009821345068724781055] rfl ?_
  refine pass_rule _ (fun w h => mapLen_rule tok h rfl ⟨rfl, rfl⟩) ?_
  refine br (fun _ => ?_) (fun q => absurd (g0.symm.trans q) (by decide))
  refine pass_rule _ (fun w h => load_rule tok h (v := .int .i64 e.1.cash) rfl ⟨rfl, rfl⟩) ?_
  refine br (fun _ => ?_) (fun q => absurd (g1.symm.trans q) (by decide))
  refine pass_rule _ (fun w h => idx_own tok rfl rfl (show (0 : Int) ≤ 1 by decide) (show (1 : Int) < ((10 : Nat) : Int) by decide) ⟨rfl, rfl⟩) ?_
  refine pass_rule _ (fun w h => row_ld tok h (.int .i64 (smF E 1)) (smC_get (by decide)) ⟨rfl, rfl⟩) ?_
  refine pass_rule _ (fun w h => load_rule tok h (v := .int .i64 e.1.cash) rfl ⟨rfl, rfl⟩) ?_
  refine pass_rule _ (fun w h => load_rule tok h (v := .int .i64 t.prin) rfl ⟨rfl, rfl⟩) ?_
  refine br (fun _ => ?_) (fun q => absurd (g2.symm.trans q) (by decide))
  refine pass_rule _ (fun w h => idx_own tok rfl rfl (show (0 : Int) ≤ 2 by decide) (show (2 : Int) < ((10 : Nat) : Int) by decide) ⟨rfl, rfl⟩) ?_
  refine pass_rule _ (fun w h => row_ld tok h (.int .i64 (smF E 2)) (smC_get (by decide)) ⟨rfl, rfl⟩) ?_
  refine pass_rule _ (fun w h => load_rule tok h (v := .int .i64 e.1.prin) rfl ⟨rfl, rfl⟩) ?_
  refine br (fun _ => ?_) (fun q => absurd (g3.symm.trans q) (by decide))
  refine pass_rule _ (fun w h => idx_own tok rfl rfl (show (0 : Int) ≤ 3 by decide) (show (3 : Int) < ((10 : Nat) : Int) by decide) ⟨rfl, rfl⟩) ?_
  refine pass_rule _ (fun w h => row_ld tok h (.int .i64 (smF E 3)) (smC_get (by decide)) ⟨rfl, rfl⟩) ?_
  refine pass_rule _ (fun w h => load_rule tok h (v := .int .i64 e.1.int) rfl ⟨rfl, rfl⟩) ?_
  refine br (fun _ => ?_) (fun q => absurd (g4.symm.trans q) (by decide))
  refine pass_rule _ (fun w h => idx_own tok rfl rfl (show (0 : Int) ≤ 4 by decide) (show (4 : Int) < ((10 : Nat) : Int) by decide) ⟨rfl, rfl⟩) ?_
  refine pass_rule _ (fun w h => row_ld tok h (.int .i64 (smF E 4)) (smC_get (by decide)) ⟨rfl, rfl⟩) ?_
  refine pass_rule _ (fun w h => load_rule tok h (v := .int .i64 e.1.fees) rfl ⟨rfl, rfl⟩) ?_
  refine br (fun _ => ?_) (fun q => absurd (g5.symm.trans q) (by decide))
  refine pass_rule _ (fun w h => idx_own tok rfl rfl (show (0 : Int) ≤ 5 by decide) (show (5 : Int) < ((10 : Nat) : Int) by decide) ⟨rfl, rfl⟩) ?_
  refine pass_rule _ (fun w h => row_ld tok h (.int .i64 (smF E 5)) (smC_get (by decide)) ⟨rfl, rfl⟩) ?_
  refine pass_rule _ (fun w h => load_rule tok h (v := .int .i64 e.1.susp) rfl ⟨rfl, rfl⟩) ?_
  refine br (fun _ => ?_) (fun q => absurd (g6.symm.trans q) (by decide))
  refine pass_rule _ (fun w h => idx_own tok rfl rfl (show (0 : Int) ≤ 9 by decide) (show (9 : Int) < ((10 : Nat) : Int) by decide) ⟨rfl, rfl⟩) ?_
  refine pass_rule _ (fun w h => row_ld tok h (.int .i64 (smF E 9)) (smC_get (by decide)) ⟨rfl, rfl⟩) ?_
  refine pass_rule _ (fun w h => load_rule tok h (v := .int .i64 e.1.recv) rfl ⟨rfl, rfl⟩) ?_
  refine br (fun _ => ?_) (fun q => absurd (g7.symm.trans q) (by decide))
  refine pass_rule _ (fun w h => load_rule tok h (v := owV e.1.fees e.1.int e.1.prin) rfl ⟨rfl, rfl⟩) ?_
  refine imp_rule (fun X wx hw => call_rule hw (fun M I _ h => owRight e.1.fees e.1.int e.1.prin hxf.1 hxi.1 hxp.1 _ M I h) fun _ w1 _ H1 => imp_done H1 ?_)
  refine pass_rule _ (fun w h => load_rule tok h (v := stV e.1) rfl ⟨rfl, rfl⟩) ?_
  refine imp_rule (fun X wx hw => call_rule hw (fun M I _ h => quote e.1 ⟨hxf.1, by omega⟩ ⟨hxi.1, by omega⟩ ⟨hxp.1, by omega⟩ _ M I h) fun _ w1 _ H1 => imp_done H1 ?_)
  refine pass_rule _ (fun w h => load_rule tok h (v := .int .i64 e.1.fees) rfl ⟨rfl, rfl⟩) ?_
  refine pass_rule _ (fun w h => load_rule tok h (v := .int .i64 e.1.int) rfl ⟨rfl, rfl⟩) ?_
  refine pass_rule _ (fun w h => load_rule tok h (v := .int .i64 e.1.prin) rfl ⟨rfl, rfl⟩) ?_
  refine done_rule fun wm Hm => ?_
  exact Exists.intro () (And.intro (congrArg Value.bool g8) (And.intro trivial (Hp.keep Hm)))
end Go.Proofs.YtjlfjjgjghdokaaGreatDoor
