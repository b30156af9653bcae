/- The ledger, where nothing is out of range: a line is added, a line is reversed, a key's entry: contracts. -/
import Derived.Test.YtjlfjjgjghdokaaGreatDoorLz21
set_option linter.unusedVariables false
namespace Go.Proofs.YtjlfjjgjghdokaaGreatDoor
open Go Go.Proofs Go.Wk
/-- No sum is greater than X, no leg is great. -/
structure LB (d : Led) (X : Int) : Prop where
  sums : ∀ p, -X ≤ getS d.sums p ∧ getS d.sums p ≤ X
  legs : ∀ x, x ∈ d.lns → ∀ g, g ∈ x.ls → sml g.amt
theorem lb_nil : LB ⟨[], [], []⟩ 0 := ⟨fun p => ⟨Int.le_refl 0, Int.le_refl 0⟩, fun x hx => by cases hx⟩
theorem amt_sml {ls : List Leg} (h : ∀ g, g ∈ ls → sml g.amt) (a : Int) : sml ((amtOf a ls).getD 0) := by
  cases e : amtOf a ls with
  | none => exact ⟨by decide, by decide⟩
  | some v =>
    obtain ⟨g, hg, _, h2⟩ := amtOf_some e
    show sml v
    rw [← h2]
    exact h g hg
theorem next_ok {d : Led} {X : Int} (hb : LB d X) (hX : X ≤ 8000000000000000000) {loan : Int} {ls : List Leg} (h : ∀ g, g ∈ ls → sml g.amt) : nextGo d.sums loan ls [] ≠ none := by
  intro hn
  obtain ⟨g, hg, hn⟩ := nextGo_none hn
  have h1 := hb.sums ⟨loan, g.acct, false⟩
  have h2 := hb.sums ⟨0, g.acct, true⟩
  have h3 := h g hg
  unfold sml at h3
  refine hn ⟨?_, ?_⟩
  · simp only [in64, Bool.and_eq_true, decide_eq_true_eq]
    omega
  · simp only [in64, Bool.and_eq_true, decide_eq_true_eq]
    omega
theorem lb_more {d d' : Led} {X : Int} (hb : LB d X) {x : Ln} (hl : d'.lns = d.lns ++ [x]) (hx : ∀ g, g ∈ x.ls → sml g.amt) {loan : Int} {nx : List (Pr × Int)} (hr : rise x.ls) (hn : nextGo d.sums loan x.ls [] = some nx) (hm : ∀ p, lk p d'.sums = (lk p nx).or (lk p d.sums)) : LB d' (X + 100000000000000000) := by
  refine ⟨fun p => ?_, fun y hy => ?_⟩
  · have e := sums_more hr hn hm p
    have h1 := hb.sums p
    have h2 := amt_sml hx p.acct
    unfold sml at h2
    rw [e]
    split <;> omega
  · rw [hl] at hy
    rcases List.mem_append.1 hy with hy | hy
    · exact hb.legs y hy
    · rw [List.mem_singleton] at hy
      rw [hy]
      exact hx
structure PostR (d : Led) (k : Key) (ls : List Leg) (X : Int) (d' : Led) : Prop where
  inv : Inv d'
  live : d'.live = putL k (d.lns.length : Int) d.live
  lns : ∃ sv, d'.lns = d.lns ++ [⟨k, sv, 0, ls⟩]
  lb : LB d' (X + 100000000000000000)
theorem postNew (l : Nat) (d : Led) (hI : Inv d) (hd : d.lns.length ≤ 100000) (X : Int) (hb : LB d X) (hX : X ≤ 8000000000000000000) (k : Key) (hk : keyIn k) (hn : lk k d.live = none) (A : Option Addr) (n c : Nat) (ls : List Leg) (hr : rightB k ls = true) (hs : ∀ g, g ∈ ls → sml g.amt) (w : World) (M I : BS)
    (H : Hp ⟨w, M, I⟩ [ledO l d] [Sl legR (.slice A n c) ls, LnF d.lns] w) :
    Ctr Tryz.prog 62 [.pointer (some ⟨l, 0, none⟩), .agg #[.int .u32 k.loan, .int .i32 k.day, .int .u8 k.kind, .int .u32 k.seq, .slice A n c]] w M I (fun _ : Led => .nilIface) (fun d' => PostR d k ls X d') (fun d' => [ledO l d']) (fun d' => [LnF d'.lns]) := by
  have h8 := (right_day hr).2.1
  refine (postX l d hI hd k hk A n c ls (by omega) w M I H).imp fun a w' hφ h => ?_
  obtain ⟨h1, h2⟩ := hφ
  unfold postS at h1
  rw [if_neg (by rw [hr]; decide), hn, if_neg (by decide)] at h1
  cases hq : nextGo d.sums k.loan ls [] with
  | none => exact absurd hq (next_ok hb hX hs)
  | some nx =>
    rw [hq] at h1
    obtain ⟨e1, e2, ⟨sv, e3⟩, e4⟩ := h1
    refine ⟨a.2, by rw [e1], ⟨h2.inv, e2, ⟨sv, e3⟩, lb_more hb e3 hs (rightB_rise hr) hq e4⟩, ?_⟩
    rw [e1] at h
    exact Hp.keep h
theorem postTwice (l : Nat) (d : Led) (hI : Inv d) (hd : d.lns.length ≤ 100000) (k : Key) (hk : keyIn k) (hn : (lk k d.live).isSome = true) (A : Option Addr) (n c : Nat) (ls : List Leg) (hr : rightB k ls = true) (w : World) (M I : BS)
    (H : Hp ⟨w, M, I⟩ [ledO l d] [Sl legR (.slice A n c) ls, LnF d.lns] w) :
    Ctr Tryz.prog 62 [.pointer (some ⟨l, 0, none⟩), .agg #[.int .u32 k.loan, .int .i32 k.day, .int .u8 k.kind, .int .u32 k.seq, .slice A n c]] w M I (fun f : Nat => .iface 116 (.pointer (some ⟨f, 0, none⟩))) (fun _ => True) (fun f => [blk f [.int .u64 k.loan, .iface 100 (.int .i64 10)] 118, ledO l d]) (fun _ => [LnF d.lns]) := by
  have h8 := (right_day hr).2.1
  refine (postX l d hI hd k hk A n c ls (by omega) w M I H).imp fun a w' hφ h => ?_
  obtain ⟨h1, h2⟩ := hφ
  unfold postS at h1
  rw [if_neg (by rw [hr]; decide), if_pos hn] at h1
  obtain ⟨⟨f, e1⟩, e2⟩ := h1
  refine ⟨f, by rw [e1], trivial, ?_⟩
  rw [e1, e2] at h
  exact h
structure RevR (d : Led) (k : Key) (i : Int) (X : Int) (d' : Led) : Prop where
  inv : Inv d'
  live : d'.live = delL k d.live
  lns : ∃ x sv, d.lns[i.toNat]? = some x ∧ d'.lns = d.lns ++ [⟨x.k, sv, i + 1, x.ls.map negL⟩]
  lb : LB d' (X + 100000000000000000)
theorem turn_ok : ∀ {ls : List Leg} {s : Int}, (∀ g, g ∈ ls → sml g.amt) → -100000000000000000 * (10 - (ls.length : Int)) ≤ s → s ≤ 100000000000000000 * (10 - (ls.length : Int)) → turnGo s ls = true
  | [], s, _, _, _ => rfl
  | g :: r, s, h, h1, h2 => by
    have hg := h g List.mem_cons_self
    unfold sml at hg
    rw [List.length_cons] at h1 h2
    have hr := turn_ok (ls := r) (s := s + g.amt) (fun x hx => h x (List.mem_cons_of_mem _ hx)) (by omega) (by omega)
    unfold turnGo
    rw [hr, decide_eq_false (by omega), decide_eq_false (by omega)]
    rfl
theorem revGood (l : Nat) (d : Led) (hI : Inv d) (hd : d.lns.length ≤ 100000) (X : Int) (hb : LB d X) (hX : X ≤ 8000000000000000000) (k : Key) (hk : keyIn k) (i : Int) (hn : lk k d.live = some i) (w : World) (M I : BS)
    (H : Hp ⟨w, M, I⟩ [ledO l d] [LnF d.lns] w) :
    Ctr Tryz.prog 60 [.pointer (some ⟨l, 0, none⟩), keyV k] w M I (fun _ : Led => .nilIface) (fun d' => RevR d k i X d') (fun d' => [ledO l d']) (fun d' => [LnF d'.lns]) := by
  refine (revX l d hI hd k hk w M I H).imp fun a w' hφ h => ?_
  obtain ⟨h1, h2⟩ := hφ
  unfold revS at h1
  rw [hn] at h1
  obtain ⟨x, hx, h1⟩ := h1
  have hm := List.mem_of_getElem? hx
  obtain ⟨ok1, ok2, ok3, ok4⟩ := hI.ok x hm
  have h8 := (right_day ok3).2.1
  have hsm := hb.legs x hm
  have ht : turnGo 0 x.ls = true := turn_ok hsm (by omega) (by omega)
  have hne : ∀ g, g ∈ x.ls → g.amt ≠ -9223372036854775808 := fun g hg => by have := hsm g hg; unfold sml at this; omega
  have hneg : ∀ g, g ∈ x.ls.map negL → sml g.amt := fun g hg => by
    obtain ⟨y, hy, rfl⟩ := List.mem_map.1 hg
    exact sml_neg (hsm y hy)
  have hrn : rightB x.k (x.ls.map negL) = true := by rw [rightB_neg (fun g hg => ⟨hne g hg, (ok4 g hg).2⟩) ok3]; exact ht
  rw [if_neg (by rw [ok3]; decide), if_neg (by rw [ht]; decide)] at h1
  cases hq : nextGo d.sums x.k.loan (x.ls.map negL) [] with
  | none => exact absurd hq (next_ok hb hX hneg)
  | some nx =>
    rw [hq] at h1
    obtain ⟨e1, e2, ⟨sv, e3⟩, e4⟩ := h1
    refine ⟨a.2, by rw [e1], ⟨h2.inv, e2, ⟨x, sv, hx, e3⟩, lb_more hb e3 hneg (rightB_rise hrn) hq e4⟩, ?_⟩
    rw [e1] at h
    exact Hp.keep h
theorem liveGood (l : Nat) (d : Led) (hI : Inv d) (hd : d.lns.length ≤ 100000) (k : Key) (i : Nat) (x : Ln) (hlk : lk k d.live = some (i : Int)) (hi : d.lns[i]? = some x) (w : World) (M I : BS) (H : Hp ⟨w, M, I⟩ [ledO l d] [LnF d.lns] w) :
    Ctr Tryz.prog 63 [.pointer (some ⟨l, 0, none⟩), keyV k] w M I (fun a : SV => .tuple #[.agg #[.int .u32 x.k.loan, .int .i32 x.k.day, .int .u8 x.k.kind, .int .u32 x.k.seq, .slice a.A a.n a.c], .bool true]) (fun _ => True) (fun _ => [ledO l d]) (fun a => [Sl legR (.slice a.A a.n a.c) x.ls, LnF d.lns]) := by
  obtain ⟨ok1, ok2, ok3, ok4⟩ := hI.ok x (List.mem_of_getElem? hi)
  have h8 := (right_day ok3).2.1
  obtain ⟨m1, m2, s, hs, H1⟩ := ledOpen (l := l) (d := d) H
  refine (Ctr.frame H1 fun M I _ h => live_ l m1 m2 s d hd hs k i x hlk hi (by omega) _ M I h).imp fun a w' _ h => ?_
  exact ⟨a, rfl, trivial, Hp.keep (ledClose (l := l) (m1 := m1) (m2 := m2) (s := s) (d := d) h hs)⟩
theorem loanGood (l : Nat) (d : Led) (hI : Inv d) (hd : d.lns.length ≤ 100000) (loan : Int) (h12 : (liveOf loan d).length ≤ 12) (w : World) (M I : BS) (H : Hp ⟨w, M, I⟩ [ledO l d] [LnF d.lns] w) :
    Ctr Tryz.prog 33 [.pointer (some ⟨l, 0, none⟩), .int .u32 loan] w M I (fun h : Hd => .slice h.A h.es.length h.c) (fun h => (h.es.map kl).Perm (liveOf loan d) ∧ srtE h.es) (fun h => [ledO l d, row 71 5 (.slice h.A h.es.length h.c) h.es.length (ensC h.es)]) (fun h => [EnF h.es, LnF d.lns]) := by
  obtain ⟨m1, m2, s, hs, H1⟩ := ledOpen (l := l) (d := d) H
  refine (Ctr.frame H1 fun M I _ h => loanL l m1 m2 s d hI hd hs loan h12 _ M I h).imp fun a w' hφ h => ?_
  exact ⟨a, rfl, hφ, Hp.keep (ledClose (l := l) (m1 := m1) (m2 := m2) (s := s) (d := d) h hs)⟩
end Go.Proofs.YtjlfjjgjghdokaaGreatDoor
set_option linter.unusedVariables false
namespace Go.Proofs.YtjlfjjgjghdokaaGreatDoor
open Go Go.Proofs Go.Wk
/-- The legs of a key that is live. -/
def lv (d : Led) (k : Key) : Option (List Leg) := (lk k d.live).bind fun i => (d.lns[i.toNat]?).map fun x => x.ls
theorem lk_at {d : Led} (hI : Inv d) {k : Key} {i : Int} (h : lk k d.live = some i) : 0 ≤ i ∧ ∃ x, d.lns[i.toNat]? = some x ∧ x.k = k ∧ x.of = 0 := by
  have h2 := hI.live k
  rw [h] at h2
  split at h2
  · rename_i h0
    have e := Option.some.inj h2
    obtain ⟨x, q1, q2, q3⟩ := hI.at_ k h0
    rw [← e] at q1 h0
    exact ⟨h0, x, q1, q2, q3⟩
  · cases h2
theorem lv_of {d : Led} {k : Key} {i : Int} {x : Ln} (h : lk k d.live = some i) (hx : d.lns[i.toNat]? = some x) : lv d k = some x.ls := by
  unfold lv
  rw [h]
  show (d.lns[i.toNat]?).map _ = _
  rw [hx]
  rfl
theorem lv_none {d : Led} (hI : Inv d) {k : Key} : lv d k = none ↔ lk k d.live = none := by
  constructor
  · intro h
    cases hq : lk k d.live with
    | none => rfl
    | some i =>
      obtain ⟨_, x, hx, _⟩ := lk_at hI hq
      rw [lv_of hq hx] at h
      cases h
  · intro h
    unfold lv
    rw [h]
    rfl
theorem lv_some {d : Led} (hI : Inv d) {k : Key} {ls : List Leg} (h : lv d k = some ls) : ∃ i x, lk k d.live = some i ∧ 0 ≤ i ∧ d.lns[i.toNat]? = some x ∧ x.k = k ∧ x.ls = ls := by
  cases hq : lk k d.live with
  | none => rw [(lv_none hI).2 hq] at h; cases h
  | some i =>
    obtain ⟨h0, x, hx, h1, _⟩ := lk_at hI hq
    rw [lv_of hq hx] at h
    exact ⟨i, x, rfl, h0, hx, h1, Option.some.inj h⟩
theorem lv_rev {d d' : Led} (hI : Inv d) {k : Key} {i X : Int} (h : RevR d k i X d') (q : Key) : lv d' q = if q = k then none else lv d q := by
  obtain ⟨x, sv, hx, hl⟩ := h.lns
  unfold lv
  rw [h.live, lk_del hI.nd, hl]
  by_cases e : q = k
  · rw [if_pos e, if_pos e]
    rfl
  · rw [if_neg e, if_neg e]
    cases hq : lk q d.live with
    | none => rfl
    | some j =>
      obtain ⟨_, y, hy, _⟩ := lk_at hI hq
      show ((d.lns ++ [_])[j.toNat]?).map _ = (d.lns[j.toNat]?).map _
      rw [get_app hy, hy]
theorem lv_post {d d' : Led} (hI : Inv d) {k : Key} {ls : List Leg} {X : Int} (h : PostR d k ls X d') (q : Key) : lv d' q = if q = k then some ls else lv d q := by
  obtain ⟨sv, hl⟩ := h.lns
  unfold lv
  rw [h.live, hl]
  by_cases e : q = k
  · rw [if_pos e, e, lk_put_eq]
    show ((d.lns ++ [_])[((d.lns.length : Nat) : Int).toNat]?).map _ = _
    rw [Int.toNat_natCast, List.getElem?_append_right (Nat.le_refl _), Nat.sub_self]
    rfl
  · rw [if_neg e, lk_put_ne e]
    cases hq : lk q d.live with
    | none => rfl
    | some j =>
      obtain ⟨_, y, hy, _⟩ := lk_at hI hq
      show ((d.lns ++ [_])[j.toNat]?).map _ = (d.lns[j.toNat]?).map _
      rw [get_app hy, hy]
theorem mem_liveOf {d : Led} (hI : Inv d) {loan : Int} {k : Key} {ls : List Leg} : (k, ls) ∈ liveOf loan d ↔ k.loan = loan ∧ lv d k = some ls := by
  unfold liveOf liveOn
  rw [List.mem_filterMap]
  constructor
  · rintro ⟨p, hp, he⟩
    rw [List.mem_filter, decide_eq_true_eq] at hp
    obtain ⟨h0, x, hx, h1, _⟩ := live_at hI hp.1
    unfold entAt at he
    rw [hx] at he
    have he := Option.some.inj he
    have e1 : p.1 = k := congrArg Prod.fst he
    have e2 : x.ls = ls := congrArg Prod.snd he
    refine ⟨by rw [← e1]; exact hp.2, ?_⟩
    have hk : lk k d.live = some p.2 := by
      rw [← e1]
      exact lk_of_mem hI.nd (show (p.1, p.2) ∈ d.live from hp.1)
    rw [lv_of hk hx, e2]
  · rintro ⟨h1, h2⟩
    obtain ⟨i, x, q1, q2, q3, q4, q5⟩ := lv_some hI h2
    have hm : ∀ (l : List (Key × Int)), lk k l = some i → (k, i) ∈ l := by
      intro l
      induction l with
      | nil => intro h; cases h
      | cons p r ih =>
        intro h
        unfold lk at h
        split at h
        · rename_i e
          have e2 := Option.some.inj h
          rw [← e, ← e2]
          exact List.mem_cons_self
        · exact List.mem_cons_of_mem _ (ih h)
    refine ⟨(k, i), List.mem_filter.2 ⟨hm _ q1, by simp [h1]⟩, ?_⟩
    unfold entAt
    rw [q3, ← q5]
    rfl
theorem keys_sub {loan : Int} {d : Led} : ∀ (m : List (Key × Int)), ((liveOn loan d m).map Prod.fst).Sublist (m.map Prod.fst)
  | [] => List.Sublist.refl _
  | p :: r => by
    have ih := keys_sub (loan := loan) (d := d) r
    have e : liveOn loan d (p :: r) = liveOn loan d r ∨ ∃ ls, liveOn loan d (p :: r) = (p.1, ls) :: liveOn loan d r := by
      unfold liveOn
      by_cases h : p.1.loan = loan
      · rw [List.filter_cons_of_pos (by simp [h])]
        cases hx : d.lns[p.2.toNat]? with
        | none => left; rw [List.filterMap_cons_none (by unfold entAt; rw [hx]; rfl)]
        | some x => right; exact ⟨x.ls, by rw [List.filterMap_cons_some (b := (p.1, x.ls)) (by unfold entAt; rw [hx]; rfl)]⟩
      · left
        rw [List.filter_cons_of_neg (by simp [h])]
    rcases e with e | ⟨ls, e⟩
    · rw [e, List.map_cons]
      exact ih.cons _
    · rw [e, List.map_cons, List.map_cons]
      exact ih.cons_cons _
theorem keys_nd {loan : Int} {d : Led} (hI : Inv d) : ((liveOf loan d).map Prod.fst).Nodup := hI.nd.sublist (keys_sub d.live)
theorem nd_of_keys {E : List (Key × List Leg)} (h : (E.map Prod.fst).Nodup) : E.Nodup := List.Pairwise.of_map _ (fun a b hab e => hab (by rw [e])) h
theorem key_eq {E : List (Key × List Leg)} (h : (E.map Prod.fst).Nodup) {a b : Key × List Leg} (ha : a ∈ E) (hb : b ∈ E) (e : a.1 = b.1) : a = b := by
  induction E with
  | nil => cases ha
  | cons p r ih =>
    rw [List.map_cons, List.nodup_cons] at h
    rcases List.mem_cons.1 ha with qa | qa
    · rcases List.mem_cons.1 hb with qb | qb
      · rw [qa, qb]
      · have hq := List.mem_map_of_mem (f := Prod.fst) qb
        rw [← e, qa] at hq
        exact absurd hq h.1
    · rcases List.mem_cons.1 hb with qb | qb
      · have hq := List.mem_map_of_mem (f := Prod.fst) qa
        rw [e, qb] at hq
        exact absurd hq h.1
      · exact ih h.2 qa qb
/-- What of A isn't in B. -/
def sans (A B : List (Key × List Leg)) : List (Key × List Leg) := A.filter fun h => decide (h ∉ B)
theorem mem_sans {A B : List (Key × List Leg)} {h : Key × List Leg} : h ∈ sans A B ↔ h ∈ A ∧ h ∉ B := by
  unfold sans
  rw [List.mem_filter, decide_eq_true_eq]
theorem sans_in {A B : List (Key × List Leg)} {h : Key × List Leg} (hb : h ∈ B) : sans (A ++ [h]) B = sans A B := by
  unfold sans
  rw [List.filter_append]
  simp [hb]
theorem sans_out {A B : List (Key × List Leg)} {h : Key × List Leg} (hb : h ∉ B) : sans (A ++ [h]) B = sans A B ++ [h] := by
  unfold sans
  rw [List.filter_append]
  simp [hb]
theorem sans_len {A A' B B' : List (Key × List Leg)} (h1 : A.Perm A') (h2 : B.Perm B') : (sans A B).length = (sans A' B').length := by
  have e : sans A B = sans A B' := by
    unfold sans
    refine List.filter_congr fun x _ => ?_
    rw [decide_eq_decide, h2.mem_iff]
  rw [e]
  exact (h1.filter _).length_eq
/-- Behind i of the entries that stand there. -/
structure St1 (d0 : Led) (H E : List (Key × List Leg)) (X : Int) (d : Led) : Prop where
  inv : Inv d
  lb : LB d (X + 100000000000000000 * ((sans H E).length : Int))
  lv : ∀ k, lv d k = if k ∈ (sans H E).map Prod.fst then none else lv d0 k
  len : d.lns.length = d0.lns.length + (sans H E).length
  more : ∃ ys, d.lns = d0.lns ++ ys
theorem st1_nil {d0 : Led} {E : List (Key × List Leg)} {X : Int} (hI : Inv d0) (hb : LB d0 X) : St1 d0 [] E X d0 :=
  ⟨hI, ⟨fun p => by have := hb.sums p; simp [sans]; omega, hb.legs⟩, fun k => rfl, rfl, ⟨[], by simp⟩⟩
theorem St1.keep {d0 : Led} {H E : List (Key × List Leg)} {X : Int} {d : Led} {h : Key × List Leg} (s : St1 d0 H E X d) (he : h ∈ E) : St1 d0 (H ++ [h]) E X d := by
  have e := sans_in (A := H) he
  exact ⟨s.inv, by rw [e]; exact s.lb, by rw [e]; exact s.lv, by rw [e]; exact s.len, s.more⟩
theorem St1.rev {d0 : Led} {H E : List (Key × List Leg)} {X Y : Int} {d d' : Led} {h : Key × List Leg} {i : Int} (s : St1 d0 H E X d) (he : h ∉ E) (hY : Y = X + 100000000000000000 * ((sans H E).length : Int)) (r : RevR d h.1 i Y d') : St1 d0 (H ++ [h]) E X d' := by
  have e := sans_out (A := H) he
  obtain ⟨x, sv, _, hl⟩ := r.lns
  obtain ⟨ys, hy⟩ := s.more
  refine ⟨r.inv, ⟨fun p => ?_, r.lb.legs⟩, fun k => ?_, ?_, ⟨ys ++ [⟨x.k, sv, i + 1, x.ls.map negL⟩], by rw [hl, hy, List.append_assoc]⟩⟩
  · have := r.lb.sums p
    rw [e, List.length_append]
    show -(X + 100000000000000000 * (((sans H E).length + 1 : Nat) : Int)) ≤ _ ∧ _ ≤ X + 100000000000000000 * (((sans H E).length + 1 : Nat) : Int)
    omega
  · rw [lv_rev s.inv r, s.lv, e, List.map_append]
    by_cases q : k = h.1
    · rw [if_pos q, if_pos (by rw [q]; simp)]
    · rw [if_neg q]
      have : k ∈ List.map Prod.fst (sans H E) ++ List.map Prod.fst [h] ↔ k ∈ List.map Prod.fst (sans H E) := by
        rw [List.mem_append]
        simp [q]
      simp only [this]
  · rw [hl, e, List.length_append, List.length_append, s.len]
    rfl
/-- Behind j of the story's entries. -/
structure St2 (d1 : Led) (H A E : List (Key × List Leg)) (X : Int) (d : Led) : Prop where
  inv : Inv d
  lb : LB d (X + 100000000000000000 * ((sans A H).length : Int))
  lv : ∀ k, lv d k = if k ∈ (sans A H).map Prod.fst then lk k E else lv d1 k
  len : d.lns.length = d1.lns.length + (sans A H).length
  more : ∃ ys, d.lns = d1.lns ++ ys
theorem st2_nil {d1 : Led} {H E : List (Key × List Leg)} {X : Int} (hI : Inv d1) (hb : LB d1 X) : St2 d1 H [] E X d1 :=
  ⟨hI, ⟨fun p => by have := hb.sums p; simp [sans]; omega, hb.legs⟩, fun k => rfl, rfl, ⟨[], by simp⟩⟩
theorem St2.keep {d1 : Led} {H A E : List (Key × List Leg)} {X : Int} {d : Led} {h : Key × List Leg} (s : St2 d1 H A E X d) (he : h ∈ H) : St2 d1 H (A ++ [h]) E X d := by
  have e := sans_in (A := A) he
  exact ⟨s.inv, by rw [e]; exact s.lb, by rw [e]; exact s.lv, by rw [e]; exact s.len, s.more⟩
theorem St2.post {d1 : Led} {H A E : List (Key × List Leg)} {X Y : Int} {d d' : Led} {h : Key × List Leg} (s : St2 d1 H A E X d) (he : h ∉ H) (hE : lk h.1 E = some h.2) (hY : Y = X + 100000000000000000 * ((sans A H).length : Int)) (r : PostR d h.1 h.2 Y d') : St2 d1 H (A ++ [h]) E X d' := by
  have e := sans_out (A := A) he
  obtain ⟨sv, hl⟩ := r.lns
  obtain ⟨ys, hy⟩ := s.more
  refine ⟨r.inv, ⟨fun p => ?_, r.lb.legs⟩, fun k => ?_, ?_, ⟨ys ++ [⟨h.1, sv, 0, h.2⟩], by rw [hl, hy, List.append_assoc]⟩⟩
  · have := r.lb.sums p
    rw [e, List.length_append]
    show -(X + 100000000000000000 * (((sans A H).length + 1 : Nat) : Int)) ≤ _ ∧ _ ≤ X + 100000000000000000 * (((sans A H).length + 1 : Nat) : Int)
    omega
  · rw [lv_post s.inv r, s.lv, e, List.map_append]
    by_cases q : k = h.1
    · rw [if_pos q, if_pos (by rw [q]; simp), q, hE]
    · rw [if_neg q]
      have : k ∈ List.map Prod.fst (sans A H) ++ List.map Prod.fst [h] ↔ k ∈ List.map Prod.fst (sans A H) := by
        rw [List.mem_append]
        simp [q]
      simp only [this]
  · rw [hl, e, List.length_append, List.length_append, s.len]
    rfl
/-- The keys of a story's entries: one loan's, each once. -/
structure EK (loan : Int) (E : List (Key × List Leg)) : Prop where
  nd : (E.map Prod.fst).Nodup
  loan : ∀ e, e ∈ E → e.1.loan = loan
theorem lkE {E : List (Key × List Leg)} (h : (E.map Prod.fst).Nodup) {e : Key × List Leg} (he : e ∈ E) : lk e.1 E = some e.2 := lk_of_mem h (show (e.1, e.2) ∈ E from he)
theorem mem_lk {E : List (Key × List Leg)} {k : Key} {ls : List Leg} (h : lk k E = some ls) : (k, ls) ∈ E := by
  induction E with
  | nil => cases h
  | cons p r ih =>
    unfold lk at h
    split at h
    · rename_i e
      have e2 := Option.some.inj h
      rw [← e, ← e2]
      exact List.mem_cons_self
    · exact List.mem_cons_of_mem _ (ih h)
section
variable {d0 d1 d : Led} {loan X Y : Int} {HS ES E A : List (Key × List Leg)}
/-- An entry that stands there, not looked at yet: it stands there still. -/
theorem st1_at (hI : Inv d0) (hH : HS.Perm (liveOf loan d0)) {B C : List (Key × List Leg)} {h : Key × List Leg} (hs : HS = B ++ h :: C) (s : St1 d0 B E X d) : lv d h.1 = some h.2 := by
  have hnd : (HS.map Prod.fst).Nodup := ((hH.map Prod.fst).nodup_iff).2 (keys_nd hI)
  have hm : h ∈ liveOf loan d0 := hH.mem_iff.1 (by rw [hs]; simp)
  have hl := ((mem_liveOf hI).1 (show (h.1, h.2) ∈ liveOf loan d0 from hm)).2
  rw [s.lv, if_neg, hl]
  intro hk
  obtain ⟨z, hz, e⟩ := List.mem_map.1 hk
  have hz := (mem_sans.1 hz).1
  rw [hs, List.map_append, List.map_cons] at hnd
  have := (List.nodup_append.1 hnd).2.2 z.1 (List.mem_map_of_mem hz) h.1 List.mem_cons_self
  exact this e
/-- The story's entry that stands there: asx it is. -/
theorem st2_in (hI : Inv d0) (hH : HS.Perm (liveOf loan d0)) (hE : EK loan E) (s1 : St1 d0 HS E X d1) {B C : List (Key × List Leg)} {e : Key × List Leg} (he : (B ++ e :: C).Perm E) (s : St2 d1 HS B E Y d) (hm : e ∈ HS) : lv d e.1 = some e.2 := by
  have hnd : (HS.map Prod.fst).Nodup := ((hH.map Prod.fst).nodup_iff).2 (keys_nd hI)
  have hne : ((B ++ e :: C).map Prod.fst).Nodup := ((he.map Prod.fst).nodup_iff).2 hE.nd
  have hl := ((mem_liveOf hI).1 (show (e.1, e.2) ∈ liveOf loan d0 from hH.mem_iff.1 hm)).2
  have heE : e ∈ E := he.mem_iff.1 (by simp)
  rw [s.lv, if_neg, s1.lv, if_neg, hl]
  · intro hk
    obtain ⟨z, hz, q⟩ := List.mem_map.1 hk
    obtain ⟨z1, z2⟩ := mem_sans.1 hz
    exact z2 (by rw [key_eq hnd z1 hm q]; exact heE)
  · intro hk
    obtain ⟨z, hz, q⟩ := List.mem_map.1 hk
    have hz := (mem_sans.1 hz).1
    rw [List.map_append, List.map_cons] at hne
    exact (List.nodup_append.1 hne).2.2 z.1 (List.mem_map_of_mem hz) e.1 List.mem_cons_self q
/-- The story's entry that doesn't stand there: no key of its own does. -/
theorem st2_out (hI : Inv d0) (hH : HS.Perm (liveOf loan d0)) (hE : EK loan E) (s1 : St1 d0 HS E X d1) {B C : List (Key × List Leg)} {e : Key × List Leg} (he : (B ++ e :: C).Perm E) (s : St2 d1 HS B E Y d) (hm : e ∉ HS) : lv d e.1 = none := by
  have hne : ((B ++ e :: C).map Prod.fst).Nodup := ((he.map Prod.fst).nodup_iff).2 hE.nd
  have heE : e ∈ E := he.mem_iff.1 (by simp)
  rw [s.lv, if_neg, s1.lv]
  · split
    · rfl
    · rename_i hk
      cases hq : lv d0 e.1 with
      | none => rfl
      | some ls =>
        exfalso
        have hin : (e.1, ls) ∈ HS := hH.mem_iff.2 ((mem_liveOf hI).2 ⟨hE.loan e heE, hq⟩)
        by_cases hz : (e.1, ls) ∈ E
        · have q := key_eq hE.nd hz heE rfl
          exact hm (by rw [← q]; exact hin)
        · exact hk (List.mem_map.2 ⟨(e.1, ls), mem_sans.2 ⟨hin, hz⟩, rfl⟩)
  · intro hk
    obtain ⟨z, hz, q⟩ := List.mem_map.1 hk
    have hz := (mem_sans.1 hz).1
    rw [List.map_append, List.map_cons] at hne
    exact (List.nodup_append.1 hne).2.2 z.1 (List.mem_map_of_mem hz) e.1 List.mem_cons_self q
/-- The ledger's live entries are the story's. -/
structure SyncR (d0 : Led) (loan : Int) (E : List (Key × List Leg)) (X : Int) (d : Led) : Prop where
  inv : Inv d
  lb : LB d (X + 100000000000000000 * (((liveOf loan d0).length + E.length : Nat) : Int))
  live : (liveOf loan d).Perm E
  other : ∀ k : Key, k.loan ≠ loan → lv d k = lv d0 k
  len : d.lns.length = d0.lns.length + (sans (liveOf loan d0) E).length + (sans E (liveOf loan d0)).length
  more : ∃ ys, d.lns = d0.lns ++ ys
theorem sync_end (hI : Inv d0) (hH : HS.Perm (liveOf loan d0)) (hE : EK loan E) (hA : ES.Perm E) (s1 : St1 d0 HS E X d1) (hY : Y = X + 100000000000000000 * ((sans HS E).length : Int)) (s2 : St2 d1 HS ES E Y d) : SyncR d0 loan E X d := by
  have l1 : (sans HS E).length = (sans (liveOf loan d0) E).length := sans_len hH (List.Perm.refl _)
  have l2 : (sans ES HS).length = (sans E (liveOf loan d0)).length := sans_len hA hH
  have l3 : (sans HS E).length ≤ HS.length := List.length_filter_le _ _
  have l4 : (sans ES HS).length ≤ ES.length := List.length_filter_le _ _
  have l5 := hH.length_eq
  have l6 := hA.length_eq
  have hoth : ∀ k : Key, k.loan ≠ loan → lv d k = lv d0 k := fun k hk => by
    rw [s2.lv, if_neg, s1.lv, if_neg]
    · intro hm
      obtain ⟨z, hz, q⟩ := List.mem_map.1 hm
      have hz := (mem_sans.1 hz).1
      have := ((mem_liveOf hI).1 (show (z.1, z.2) ∈ liveOf loan d0 from hH.mem_iff.1 hz)).1
      exact hk (by rw [← q]; exact this)
    · intro hm
      obtain ⟨z, hz, q⟩ := List.mem_map.1 hm
      have hz := (mem_sans.1 hz).1
      exact hk (by rw [← q]; exact hE.loan z (hA.mem_iff.1 hz))
  have hin : ∀ k : Key, k.loan = loan → lv d k = lk k E := fun k hk => by
    rw [s2.lv]
    split
    · rfl
    · rename_i hno
      cases hq : lk k E with
      | some ls =>
        have hm := mem_lk hq
        have hmH : (k, ls) ∈ HS := by
          refine Classical.byContradiction fun hc => hno ?_
          exact List.mem_map.2 ⟨(k, ls), mem_sans.2 ⟨hA.mem_iff.2 hm, hc⟩, rfl⟩
        have hnd : (HS.map Prod.fst).Nodup := ((hH.map Prod.fst).nodup_iff).2 (keys_nd hI)
        rw [s1.lv, if_neg]
        · exact ((mem_liveOf hI).1 (hH.mem_iff.1 hmH)).2
        · intro hz
          obtain ⟨z, hz, q⟩ := List.mem_map.1 hz
          obtain ⟨z1, z2⟩ := mem_sans.1 hz
          exact z2 (by rw [key_eq hnd z1 hmH q]; exact hm)
      | none =>
        rw [s1.lv]
        split
        · rfl
        · rename_i hno2
          cases hq2 : lv d0 k with
          | none => rfl
          | some ls =>
            exfalso
            have hmH : (k, ls) ∈ HS := hH.mem_iff.2 ((mem_liveOf hI).2 ⟨hk, hq2⟩)
            by_cases hz : (k, ls) ∈ E
            · have := lkE hE.nd hz
              rw [hq] at this
              cases this
            · exact hno2 (List.mem_map.2 ⟨(k, ls), mem_sans.2 ⟨hmH, hz⟩, rfl⟩)
  refine ⟨s2.inv, ⟨fun p => ?_, s2.lb.legs⟩, ?_, hoth, ?_, ?_⟩
  · have := s2.lb.sums p
    rw [hY] at this
    omega
  · refine (List.perm_ext_iff_of_nodup (nd_of_keys (keys_nd s2.inv)) (nd_of_keys hE.nd)).2 fun e => ?_
    constructor
    · intro he
      obtain ⟨h1, h2⟩ := (mem_liveOf s2.inv).1 (show (e.1, e.2) ∈ liveOf loan d from he)
      rw [hin _ h1] at h2
      exact mem_lk h2
    · intro he
      refine (mem_liveOf s2.inv).2 ⟨hE.loan e he, ?_⟩
      rw [hin _ (hE.loan e he)]
      exact lkE hE.nd he
  · rw [s2.len, s1.len, l1, l2]
  · obtain ⟨y1, h1⟩ := s1.more
    obtain ⟨y2, h2⟩ := s2.more
    exact ⟨y1 ++ y2, by rw [h2, h1, List.append_assoc]⟩
end
end Go.Proofs.YtjlfjjgjghdokaaGreatDoor
set_option linter.unusedVariables false
namespace Go.Wk
/-- A call of a function value that has caught something. -/
theorem clo_rule {P : Program} {K : Value → World → Prop} {w : World} {B : Base} {S : List Asn} {F : List Fact} (H : Hp B S F w) {g : Nat} {args : List Value} (cap : List Value) {α : Type} {V : α → Value} {φ : α → Prop} {A : α → List Asn} {G : α → List Fact} {A0 : List Asn} {G0 : List Fact} {S' : List Asn} {R : α → List Asn} {N : α → List Fact}
    (h : ∀ M I, (A0 = [] → ∀ b, ¬ M b) → Hp ⟨w, M, I⟩ A0 G0 w → Ctr P g (args ++ cap) w M I V φ A G) [hp : Pick S A0 S'] [hs : SubF F G0] [hr : ∀ a, AppL (A a) S' (R a)] [hn : ∀ a, AppL (G a) F (N a)]
    (k : ∀ a w', φ a → Hp B (R a) (N a) w' → K (V a) w') : CallK P K w (.func (.func g) #[] cap.toArray) args := by
  obtain ⟨M, I, h0, hm, hk⟩ := (H.perm hp.perm).call (A := A0) (S := S') (G := G0) fun I ha => hs.all ha
  refine CallK_clo ((h M I hm h0).mono ?_)
  rintro v w' ⟨a, rfl, hφ, hh⟩
  refine k a w' hφ ?_
  rw [(hr a).eq, (hn a).eq]
  exact hk _ _ _ hh
end Go.Wk
namespace Go.Proofs.YtjlfjjgjghdokaaGreatDoor
open Go Go.Proofs Go.Wk
/-- An event; is it gone? -/
structure Pa where
  ev : Ev
  gone : Bool
def paC (x : Pa) : List Value := [.int .u32 x.ev.seq, .int .i32 x.ev.day, .int .u8 x.ev.kind, .int .i64 x.ev.amt, .bool x.gone]
@[reducible] def paV (x : Pa) : Value := .agg #[.int .u32 x.ev.seq, .int .i32 x.ev.day, .int .u8 x.ev.kind, .int .i64 x.ev.amt, .bool x.gone]
@[reducible] def pasC (xs : List Pa) : List Value := flatL paC xs
theorem paC_len (x : Pa) : (paC x).length = 5 := rfl
theorem pas_get {ps : List Pa} {j : Nat} {x : Pa} (h : ps[j]? = some x) : ldV (tb 105) (pasC ps) (0 + j * 5) = some (paV x) := by
  obtain ⟨hj, _⟩ := List.getElem?_eq_some_iff.1 h
  show (bif Nat.ble (0 + j * 5 + 5) (pasC ps).length then some (Value.agg (((pasC ps).drop (0 + j * 5)).take 5).toArray) else none) = _
  have hl : (pasC ps).length = ps.length * 5 := flatL_len paC_len ps
  rw [Nat.zero_add, flatL_at paC_len h]
  have : Nat.ble (j * 5 + 5) (pasC ps).length = true := by rw [Nat.ble_eq, hl]; omega
  rw [this]
  rfl
/-- Where the event of a number is; below 0: nowhere. -/
def findI (q : Int) : List Pa → Nat → Int
  | [], _ => -1
  | p :: r, i => if p.ev.seq = q then (i : Int) else findI q r (i + 1)
theorem find1 (b : Nat) (q : Int) (x : Pa) (w : World) (M I : BS) (H : Hp ⟨w, M, I⟩ [blk b [.int .u32 q] 23] [] w) :
    Ctr Tryz.prog 111 [paV x, .pointer (some ⟨b, 0, none⟩)] w M I (fun _ : Unit => .bool (x.ev.seq == q)) (fun _ => True) (fun _ => [blk b [.int .u32 q] 23]) (fun _ => []) := by
  refine Exe.of_ev tok Tryz.call111 Tryz.func111 rfl rfl rfl ?_
  refine box_as H (paC x) rfl fun r w1 H1 => ?_
  refine load_rule tok H1 (v := .int .u32 x.ev.seq) rfl ?_
  refine load_rule tok H1 (v := .int .u32 q) rfl ?_
  exact Exists.intro () (And.intro rfl (And.intro trivial (Hp.keep H1)))
theorem map0 {α β : Type} (f : α → β) : Array.map f #[] = #[] := by simp
theorem map1 {α β : Type} (f : α → β) (x : α) : Array.map f #[x] = #[f x] := by simp
theorem idxP (A : Option Addr) (n c : Nat) (ps : List Pa) (hn : n = ps.length) (b : Nat) (q : Int) (fs cap : Array Value) (hfs : fs = #[]) (hcap : cap = #[.pointer (some ⟨b, 0, none⟩)]) (w : World) (M I : BS) (H : Hp ⟨w, M, I⟩ [row 105 5 (.slice A n c) n (pasC ps), blk b [.int .u32 q] 23] [] w) :
    Ctr Tryz.prog 110 [.slice A n c, .func (.func 111) fs cap] w M I (fun _ : Unit => .int .i64 (findI q ps 0)) (fun _ => True) (fun _ => [row 105 5 (.slice A n c) n (pasC ps), blk b [.int .u32 q] 23]) (fun _ => []) := by
  have hmx : n ≤ 9223372036854775807 := by
    obtain ⟨fa, hfa⟩ := Hp.own (A := row 105 5 (.slice A n c) n (pasC ps)) H
    obtain ⟨A', c', h⟩ := row_shape hfa
    exact Nat.le_trans h.2.1 h.2.2.1
  subst hcap hfs
  refine Exe.of_ev tok Tryz.call110 Tryz.func110 rfl rfl rfl ?_
  refine loop_rule tok (σ := Nat) 524080 (fun i => [(8, .int .i64 (i : Int))]) (fun i w' => i ≤ n ∧ findI q ps 0 = findI q (ps.drop i) i ∧ Hp ⟨w, M, I⟩ [row 105 5 (.slice A n c) n (pasC ps), blk b [.int .u32 q] 23] [] w') (fun i => n - i) 0 rfl rfl ⟨rfl, trivial⟩ ⟨Nat.zero_le _, rfl, H⟩ ?_
  intro i j w1 hW
  have hi := hW.1
  have hg := hW.2.1
  have H1 := hW.2.2
  refine brd (fun q2 => ?_) (fun q2 => ?_)
  · have hil : i < n := Int.ofNat_lt.1 q2
    have ew : IntKind.i64.wrap ((i : Int) + 1) = ((i + 1 : Nat) : Int) := w64 (by omega) (by omega)
    refine Exists.elim (show ∃ u, ps[i]? = some u from ⟨_, List.getElem?_eq_getElem (by omega)⟩) fun u hu => ?_
    have hd : ps.drop i = u :: ps.drop (i + 1) := by
      rw [List.drop_eq_getElem_cons (by omega)]
      rw [List.getElem?_eq_getElem (by omega)] at hu
      rw [Option.some.inj hu]
    refine Exists.elim (row_at (A := A) (n := n) (c := c) H1 (by omega)) fun g hA => ?_
    refine idx_ownA tok hA rfl rfl (Int.natCast_nonneg i) q2 ?_
    refine row_ldA (A := A) (n := n) (c := c) tok H1 (paV u) hA (pas_get hu) ?_
    refine clo_rule H1 [.pointer (some ⟨b, 0, none⟩)] (fun M I _ h => find1 b q u _ M I h) fun _ w2 _ H2 => ?_
    refine br (fun q3 => ?_) (fun q3 => ?_)
    · have q3 : u.ev.seq = q := eq_of_beq q3
      refine Exists.intro () (And.intro (congrArg (Value.int .i64) ?_) (And.intro trivial (Hp.keep H2)))
      rw [hg, hd, findI, if_pos q3]
    · have q3 : u.ev.seq ≠ q := ne_of_beq_false q3
      refine Exists.intro (i + 1) (And.intro ⟨congrArg (Value.int .i64) ew, trivial⟩ (And.intro ?_ ⟨?_, ?_, Hp.keep H2⟩))
      · show n - (i + 1) < n - i
        omega
      · omega
      · rw [hg, hd, findI, if_neg q3]
  · refine Exists.intro () (And.intro (congrArg (Value.int .i64) ?_) (And.intro trivial (Hp.keep H1)))
    have q2 : ¬ (i : Int) < (n : Int) := q2
    rw [hg, List.drop_eq_nil_of_le (by omega)]
    rfl
/-! What an event may be. -/
def evRB (e : Ev) : Bool := if e.kind = 4 ∨ e.kind = 5 ∨ e.kind = 6 then dayB e.day && (decide (1 ≤ e.amt) && coinB e.amt) else if e.kind = 7 then dayB e.day && (e.amt == 0) else false
theorem evRight (e : Ev) : CB 57 [evV e] (.bool (evRB e)) := by
  intro w M I H
  refine Exe.of_ev tok Tryz.call57 Tryz.func57 rfl rfl rfl ?_
  refine box_as H (evC e) rfl fun r w1 H1 => ?_
  refine load_rule tok H1 (v := .int .u8 e.kind) rfl ?_
  have h456 : ∀ (hk : e.kind = 4 ∨ e.kind = 5 ∨ e.kind = 6), evRB e = (dayB e.day && (decide (1 ≤ e.amt) && coinB e.amt)) := fun hk => by unfold evRB; rw [if_pos hk]
  have h7 : e.kind = 7 → evRB e = (dayB e.day && (e.amt == 0)) := fun hk => by unfold evRB; rw [if_neg (by omega), if_pos hk]
  refine br (fun q4 => ?_) (fun q4 => ?_)
  · refine br (fun _ => ?_) (fun q => absurd (q4.symm.trans q) (by decide))
    have hh := h456 (Or.inl (eq_of_beq q4))
    refine load_rule tok H1 (v := .int .i32 e.day) rfl ?_
    refine call_rule H1 (fun M I _ h => dayRight e.day _ M I h) fun _ w2 _ H2 => ?_
    refine br (fun d1 => ?_) (fun d1 => ?_)
    · refine load_rule tok H2 (v := .int .i64 e.amt) rfl ?_
      refine brd (fun d2 => ?_) (fun d2 => ?_)
      · refine load_rule tok H2 (v := .int .i64 e.amt) rfl ?_
        refine call_rule H2 (fun M I _ h => coinRight e.amt _ M I h) fun _ w3 _ H3 => ?_
        refine Exists.intro () (And.intro (congrArg Value.bool ?_) (And.intro trivial (Hp.keep H3)))
        rw [hh, d1, decide_eq_true d2]
        rfl
      · refine Exists.intro () (And.intro (congrArg Value.bool ?_) (And.intro trivial (Hp.keep H2)))
        rw [hh, d1, decide_eq_false d2]
        rfl
    · refine Exists.intro () (And.intro (congrArg Value.bool ?_) (And.intro trivial (Hp.keep H2)))
      rw [hh, d1]
      rfl
  · refine br (fun q5 => ?_) (fun q5 => ?_)
    · refine br (fun _ => ?_) (fun q => absurd (q5.symm.trans q) (by decide))
      have hh := h456 (Or.inr (Or.inl (eq_of_beq q5)))
      refine load_rule tok H1 (v := .int .i32 e.day) rfl ?_
      refine call_rule H1 (fun M I _ h => dayRight e.day _ M I h) fun _ w2 _ H2 => ?_
      refine br (fun d1 => ?_) (fun d1 => ?_)
      · refine load_rule tok H2 (v := .int .i64 e.amt) rfl ?_
        refine brd (fun d2 => ?_) (fun d2 => ?_)
        · refine load_rule tok H2 (v := .int .i64 e.amt) rfl ?_
          refine call_rule H2 (fun M I _ h => coinRight e.amt _ M I h) fun _ w3 _ H3 => ?_
          refine Exists.intro () (And.intro (congrArg Value.bool ?_) (And.intro trivial (Hp.keep H3)))
          rw [hh, d1, decide_eq_true d2]
          rfl
        · refine Exists.intro () (And.intro (congrArg Value.bool ?_) (And.intro trivial (Hp.keep H2)))
          rw [hh, d1, decide_eq_false d2]
          rfl
      · refine Exists.intro () (And.intro (congrArg Value.bool ?_) (And.intro trivial (Hp.keep H2)))
        rw [hh, d1]
        rfl
    · refine br (fun q6 => ?_) (fun q6 => ?_)
      · have hh := h456 (Or.inr (Or.inr (eq_of_beq q6)))
        refine load_rule tok H1 (v := .int .i32 e.day) rfl ?_
        refine call_rule H1 (fun M I _ h => dayRight e.day _ M I h) fun _ w2 _ H2 => ?_
        refine br (fun d1 => ?_) (fun d1 => ?_)
        · refine load_rule tok H2 (v := .int .i64 e.amt) rfl ?_
          refine brd (fun d2 => ?_) (fun d2 => ?_)
          · refine load_rule tok H2 (v := .int .i64 e.amt) rfl ?_
            refine call_rule H2 (fun M I _ h => coinRight e.amt _ M I h) fun _ w3 _ H3 => ?_
            refine Exists.intro () (And.intro (congrArg Value.bool ?_) (And.intro trivial (Hp.keep H3)))
            rw [hh, d1, decide_eq_true d2]
            rfl
          · refine Exists.intro () (And.intro (congrArg Value.bool ?_) (And.intro trivial (Hp.keep H2)))
            rw [hh, d1, decide_eq_false d2]
            rfl
        · refine Exists.intro () (And.intro (congrArg Value.bool ?_) (And.intro trivial (Hp.keep H2)))
          rw [hh, d1]
          rfl
      · refine br (fun q7 => ?_) (fun q7 => ?_)
        · have hh := h7 (eq_of_beq q7)
          refine load_rule tok H1 (v := .int .i32 e.day) rfl ?_
          refine call_rule H1 (fun M I _ h => dayRight e.day _ M I h) fun _ w2 _ H2 => ?_
          refine br (fun d1 => ?_) (fun d1 => ?_)
          · refine load_rule tok H2 (v := .int .i64 e.amt) rfl ?_
            refine Exists.intro () (And.intro (congrArg Value.bool ?_) (And.intro trivial (Hp.keep H2)))
            rw [hh, d1]
            rfl
          · refine Exists.intro () (And.intro (congrArg Value.bool ?_) (And.intro trivial (Hp.keep H2)))
            rw [hh, d1]
            rfl
        · refine Exists.intro () (And.intro (congrArg Value.bool ?_) (And.intro trivial (Hp.keep H1)))
          have n4 := ne_of_beq_false q4
          have n5 := ne_of_beq_false q5
          have n6 := ne_of_beq_false q6
          have n7 := ne_of_beq_false q7
          have hh : evRB e = false := by unfold evRB; rw [if_neg (by omega), if_neg n7]
          rw [hh]
end Go.Proofs.YtjlfjjgjghdokaaGreatDoor
set_option linter.unusedVariables false
namespace Go.Wk
theorem Hp.nilFr {w : World} {B : Base} {S : List Asn} {F : List Fact} (H : Hp B S F w) (N e sz : Nat) : Hp B (Fr N (row e sz (.slice none 0 0) 0 []) :: S) F w := (H.nil e sz).head fun fp hf => ⟨hf, fun b hb => by
  have e := (hf.2 b).1 hb
  cases e⟩
end Go.Wk
namespace Go.Proofs.YtjlfjjgjghdokaaGreatDoor
open Go Go.Proofs Go.Wk
theorem frEvs {w : World} {B : Base} {S S' : List Asn} {F : List Fact} (H : Hp B S F w) {N : Nat} {v : Value} {e n : Nat} (ls : List Ev) (hM : B.w.heap.size ≤ N) [h1 : TakeF S N v e 4 n (evsC ls) S'] : Hp B S' (Sl evR v ls :: F) w := by
  have H2 := (H.addCl evR (cs := evsC ls) (xs := ls) (evsC_len ls) (fun i x hx => ⟨(), trivial, evs_at hx, rfl⟩)).frzRowFr (v := v) (xs := ls) evR hM rfl (by decide)
  refine H2.facts fun I ha f hf => ha f ?_
  rcases List.mem_cons.1 hf with rfl | hf
  · exact List.mem_cons_self
  · exact List.mem_cons_of_mem _ (List.mem_cons_of_mem _ hf)
/-- A loan. -/
structure Lo where
  sb : Nat
  S : Sto
  dv : SV
  ps : List Pa
  pv : SV
  thr : Int
  x : St
  h : Hd
@[reducible] def loC (o : Lo) : List Value := [.int .u32 o.S.loan, .pointer (some ⟨o.sb, 0, none⟩), .slice o.pv.A o.pv.n o.pv.c, .int .i32 o.thr, .int .i64 o.x.fees, .int .i64 o.x.int, .int .i64 o.x.prin, .int .u64 o.x.carry, .int .i64 o.x.paid, .int .i64 o.x.susp, .int .i64 o.x.recv, .int .i64 o.x.cash, .int .u8 o.x.status, .slice o.h.A o.h.es.length o.h.c]
@[reducible] def loA (p : Nat) (o : Lo) : List Asn := [blk p (loC o) 141, row 105 5 (.slice o.pv.A o.pv.n o.pv.c) o.pv.n (pasC o.ps), blk o.sb (stoC o.S o.dv) 120, row 71 5 (.slice o.h.A o.h.es.length o.h.c) o.h.es.length (ensC o.h.es)]
@[reducible] def loF (o : Lo) : List Fact := [Sl dueR (.slice o.dv.A o.dv.n o.dv.c) o.S.dues, EnF o.h.es]
/-- What isn't gone. -/
def liveL : List Pa → List Ev
  | [] => []
  | p :: r => if p.gone then liveL r else p.ev :: liveL r
theorem liveL_snoc (ps : List Pa) (x : Pa) : liveL (ps ++ [x]) = if x.gone then liveL ps else liveL ps ++ [x.ev] := by
  induction ps with
  | nil => cases h : x.gone <;> simp [liveL, h]
  | cons p r ih =>
    show (if p.gone then liveL (r ++ [x]) else p.ev :: liveL (r ++ [x])) = _
    rw [ih]
    cases h : x.gone <;> cases h2 : p.gone <;> simp [liveL, h2]
theorem liveL_len : ∀ ps : List Pa, (liveL ps).length ≤ ps.length
  | [] => Nat.le_refl _
  | p :: r => by
    have := liveL_len r
    unfold liveL
    split
    · rw [List.length_cons]; omega
    · rw [List.length_cons, List.length_cons]; omega
theorem liveL_mem : ∀ {ps : List Pa} {e : Ev}, e ∈ liveL ps → ∃ p, p ∈ ps ∧ p.ev = e ∧ p.gone = false
  | p :: r, e, h => by
    unfold liveL at h
    cases hg : p.gone with
    | true =>
      rw [hg, if_pos rfl] at h
      obtain ⟨q, h1, h2⟩ := liveL_mem h
      exact ⟨q, List.mem_cons_of_mem _ h1, h2⟩
    | false =>
      rw [hg, if_neg (by decide)] at h
      rcases List.mem_cons.1 h with rfl | h
      · exact ⟨p, List.mem_cons_self, rfl, hg⟩
      · obtain ⟨q, h1, h2⟩ := liveL_mem h
        exact ⟨q, List.mem_cons_of_mem _ h1, h2⟩
theorem evsC_snoc (l : List Ev) (e : Ev) : evsC l ++ evC e = evsC (l ++ [e]) := by
  induction l with
  | nil => rfl
  | cons a r ih => simp only [evsC, List.cons_append, ih]
/-- What a story tells of events through a day. -/
def told (S : Sto) (thr : Int) (ps : List Pa) (x : St) (E : List (Key × List Leg)) : Prop := ∃ l, l.Perm (liveL ps) ∧ evSrt l ∧ x = (tellF S (mn thr 3640000) l).x ∧ E = (tellF S (mn thr 3640000) l).E
structure LoOk (o : Lo) : Prop where
  sto : StoOk o.S
  pn : o.pv.n = o.ps.length
  ev : ∀ p, p ∈ o.ps → EvA p.ev
  few : o.ps.length ≤ 19
  thr : o.S.t.start - 1 ≤ o.thr ∧ o.thr ≤ o.S.t.start + 10000
  loan : inK .u32 o.S.loan
set_option maxHeartbeats 2000000 in
set_option maxRecDepth 20000 in
theorem ltell (p : Nat) (o : Lo) (ok : LoOk o) (w : World) (M I : BS) (H : Hp ⟨w, M, I⟩ (loA p o) [Sl dueR (.slice o.dv.A o.dv.n o.dv.c) o.S.dues] w) :
    Ctr Tryz.prog 55 [.pointer (some ⟨p, 0, none⟩)] w M I (fun _ : St × Hd => .tuple #[]) (fun a => told o.S o.thr o.ps a.1 (a.2.es.map kl)) (fun a => loA p { o with x := a.1, h := a.2 }) (fun a => [EnF a.2.es]) := by
  have hpn := ok.pn
  have hfew := ok.few
  have hthr := ok.thr
  have hst := ok.sto.ok.start
  refine Exe.of_ev tok Tryz.call55 Tryz.func55 rfl rfl rfl ?_
  have H1 : Hp ⟨w, M, I⟩ [Fr w.heap.size (row 65 4 (.slice none 0 0) 0 (evsC (liveL (o.ps.take 0)))), blk p (loC o) 141, row 105 5 (.slice o.pv.A o.pv.n o.pv.c) o.pv.n (pasC o.ps), blk o.sb (stoC o.S o.dv) 120] [Sl dueR (.slice o.dv.A o.dv.n o.dv.c) o.S.dues] w := by
    have e0 : evsC (liveL (o.ps.take 0)) = [] := by rw [List.take_zero]; rfl
    rw [e0]
    exact Hp.keep (Hp.nilFr H w.heap.size 65 4)
  refine load_rule tok H1 (v := .slice o.pv.A o.pv.n o.pv.c) rfl ?_
  refine loop_out tok (σ := Nat × SV) (τ := SV) 8387604 0 (fun s => [(2, .slice s.2.A s.2.n s.2.c), (10, .int .i64 (s.1 : Int))]) (fun s w' => s.1 ≤ o.pv.n ∧ s.2.n = (liveL (o.ps.take s.1)).length ∧ Hp ⟨w, M, I⟩ [Fr w.heap.size (row 65 4 (.slice s.2.A s.2.n s.2.c) s.2.n (evsC (liveL (o.ps.take s.1)))), blk p (loC o) 141, row 105 5 (.slice o.pv.A o.pv.n o.pv.c) o.pv.n (pasC o.ps), blk o.sb (stoC o.S o.dv) 120] [Sl dueR (.slice o.dv.A o.dv.n o.dv.c) o.S.dues] w') (fun s => o.pv.n - s.1) (0, ⟨none, 0, 0⟩)
    (fun t => [(2, .slice t.A t.n t.c)]) (fun t w' => t.n = (liveL o.ps).length ∧ Hp ⟨w, M, I⟩ [Fr w.heap.size (row 65 4 (.slice t.A t.n t.c) t.n (evsC (liveL o.ps))), blk p (loC o) 141, row 105 5 (.slice o.pv.A o.pv.n o.pv.c) o.pv.n (pasC o.ps), blk o.sb (stoC o.S o.dv) 120] [Sl dueR (.slice o.dv.A o.dv.n o.dv.c) o.S.dues] w') rfl rfl ⟨rfl, rfl, trivial⟩ ⟨Nat.zero_le _, rfl, H1⟩ ?_ ?_
  · intro s j w2 hW
    have hi := hW.1
    have hsn := hW.2.1
    have H2 := hW.2.2
    refine Exists.elim (show ∃ i, i = s.1 from ⟨_, rfl⟩) fun i ei => ?_
    rw [← ei] at hi hsn H2
    have hll := liveL_len (o.ps.take i)
    rw [List.length_take] at hll
    have ew : IntKind.i64.wrap ((s.1 : Int) + 1) = ((s.1 + 1 : Nat) : Int) := w64 (by omega) (by omega)
    refine brd (fun q2 => ?_) (fun q2 => ?_)
    · have hil : s.1 < o.pv.n := Int.ofNat_lt.1 q2
      rw [← ei] at hil
      refine Exists.elim (show ∃ u, o.ps[i]? = some u from ⟨_, List.getElem?_eq_getElem (by omega)⟩) fun u hu => ?_
      have ht : o.ps.take (i + 1) = o.ps.take i ++ [u] := by
        rw [List.getElem?_eq_getElem (by omega)] at hu
        rw [List.take_succ_eq_append_getElem (by omega), Option.some.inj hu]
      refine Exists.elim (row_at (A := o.pv.A) (n := o.pv.n) (c := o.pv.c) H2 (by omega)) fun g hA => ?_
      have i0 : (0 : Int) ≤ (s.1 : Int) := Int.natCast_nonneg _
      have hget : ldV (tb 105) (pasC o.ps) (0 + ((s.1 : Int)).toNat * 5) = some (paV u) := by rw [← ei]; exact pas_get hu
      refine idx_ownA tok hA rfl rfl i0 q2 ?_
      refine row_ldA (A := o.pv.A) (n := o.pv.n) (c := o.pv.c) tok H2 (paV u) hA hget ?_
      refine alloc_as tok H2 [.int .u32 0, .int .i32 0, .int .u8 0, .int .i64 0, .bool false] rfl rfl rfl fun y w3 H3 => ?_
      refine store_as tok H3 (paC u) rfl rfl rfl rfl rfl fun w4 H4 => ?_
      refine load_rule tok H4 (v := .bool u.gone) rfl ?_
      refine br (fun q3 => ?_) (fun q3 => ?_)
      · have q3 : u.gone = false := by
          have q3 : (!u.gone) = true := q3
          simpa using q3
        have el : liveL (o.ps.take (i + 1)) = liveL (o.ps.take i) ++ [u.ev] := by rw [ht, liveL_snoc, q3, if_neg (by decide)]
        refine load_rule tok H4 (v := evV u.ev) rfl ?_
        refine slice_as tok H4 (evC u.ev) rfl rfl rfl rfl rfl rfl fun g2 w5 H5 => ?_
        refine append_fr (v := .slice s.2.A s.2.n s.2.c) (b := g2) (m := 1) (c := 1) tok H5 rfl rfl rfl rfl rfl rfl rfl rfl (by show (s.2.n + 1) * 24 ≤ _; omega) (by omega) H5.size fun A2 c2 w6 H6 => ?_
        rw [evsC_snoc, ← el] at H6
        refine Exists.intro (s.1 + 1, ⟨A2, s.2.n + 1, c2⟩) (And.intro ⟨rfl, congrArg (Value.int .i64) ew, trivial⟩ (And.intro ?_ ⟨?_, ?_, ?_⟩))
        · show o.pv.n - (s.1 + 1) < o.pv.n - s.1
          omega
        · show s.1 + 1 ≤ o.pv.n
          omega
        · show s.2.n + 1 = (liveL (o.ps.take (s.1 + 1))).length
          rw [← ei, el, List.length_append, ← hsn]
          rfl
        · show Hp ⟨w, M, I⟩ [Fr w.heap.size (row 65 4 (.slice A2 (s.2.n + 1) c2) (s.2.n + 1) (evsC (liveL (o.ps.take (s.1 + 1))))), blk p (loC o) 141, row 105 5 (.slice o.pv.A o.pv.n o.pv.c) o.pv.n (pasC o.ps), blk o.sb (stoC o.S o.dv) 120] [Sl dueR (.slice o.dv.A o.dv.n o.dv.c) o.S.dues] w6
          rw [← ei]
          exact Hp.keep H6
      · have q3 : u.gone = true := by
          have q3 : (!u.gone) = false := q3
          simpa using q3
        have el : liveL (o.ps.take (i + 1)) = liveL (o.ps.take i) := by rw [ht, liveL_snoc, q3, if_pos rfl]
        rw [← el] at hsn H4
        refine Exists.intro (s.1 + 1, s.2) (And.intro ⟨rfl, congrArg (Value.int .i64) ew, trivial⟩ (And.intro ?_ ⟨?_, ?_, ?_⟩))
        · show o.pv.n - (s.1 + 1) < o.pv.n - s.1
          omega
        · show s.1 + 1 ≤ o.pv.n
          omega
        · show s.2.n = (liveL (o.ps.take (s.1 + 1))).length
          rw [← ei]
          exact hsn
        · show Hp ⟨w, M, I⟩ [Fr w.heap.size (row 65 4 (.slice s.2.A s.2.n s.2.c) s.2.n (evsC (liveL (o.ps.take (s.1 + 1))))), blk p (loC o) 141, row 105 5 (.slice o.pv.A o.pv.n o.pv.c) o.pv.n (pasC o.ps), blk o.sb (stoC o.S o.dv) 120] [Sl dueR (.slice o.dv.A o.dv.n o.dv.c) o.S.dues] w4
          rw [← ei]
          exact Hp.keep H4
    · have hie : i = o.ps.length := by
        have q2 : ¬ (s.1 : Int) < (o.pv.n : Int) := q2
        omega
      have hall : o.ps.take i = o.ps := by rw [hie]; exact List.take_length
      rw [hall] at hsn H2
      exact Exists.intro s.2 (And.intro ⟨rfl, trivial⟩ ⟨hsn, H2⟩)
  intro t j w2 hW
  have htn := hW.1
  have H2 := hW.2
  have H3 : Hp ⟨w, M, I⟩ [blk p (loC o) 141, blk o.sb (stoC o.S o.dv) 120, row 105 5 (.slice o.pv.A o.pv.n o.pv.c) o.pv.n (pasC o.ps)] [Sl evR (.slice t.A t.n t.c) (liveL o.ps), Sl dueR (.slice o.dv.A o.dv.n o.dv.c) o.S.dues] w2 := Hp.keep (frEvs (N := w.heap.size) (v := .slice t.A t.n t.c) H2 (liveL o.ps) (Nat.le_refl _))
  have hlv := liveL_len o.ps
  have ham : ∀ e, e ∈ liveL o.ps → EvA e := fun e he => by
    obtain ⟨q, h1, h2, _⟩ := liveL_mem he
    rw [← h2]
    exact ok.ev q h1
  refine draw_rule (A := [blk p (loC o) 141, blk o.sb (stoC o.S o.dv) 120]) tok tdr H3 [2, 3, 4, 5, 6, 7, 8, 9, 10, 11, 0, 12, 13, 15, 16, 17, 1, 14, 18, 19, 20] [0, 0, 0, 4, 12, 28, 0, 0, 128, 384, 896, 2044, 4092, 8188, 8188, 16381, 49149, 114685, 262143, 524287, 1048575] rfl ?_
  refine pass_last _ rfl (fun X w h => load_rule tok h (v := .pointer (some ⟨o.sb, 0, none⟩)) rfl ⟨rfl, rfl⟩) ?_
  refine pass_last _ rfl (fun X w h => load_rule tok h (v := .int .i32 o.thr) rfl ⟨rfl, rfl⟩) ?_
  refine imp_rule (fun X wx hw => call_rule hw (fun M I _ h => tell o.sb o.S ok.sto o.dv t.A t.n t.c (liveL o.ps) (by omega) ham o.thr hthr.2 (by omega) _ M I h) fun a w3 ha H4 => imp_done H4 ?_)
  refine imp_rule (fun X wx hw => store_as tok hw (loC { o with x := a.1 }) rfl rfl rfl rfl rfl fun w4 H5 => imp_done H5 ?_)
  refine imp_rule (fun X wx hw => store_as tok hw (loC { o with x := a.1, h := a.2 }) rfl rfl rfl rfl rfl fun w4 H5 => imp_done H5 ?_)
  refine done_rule fun w5 H6 => ?_
  exact Exists.intro a (And.intro rfl (And.intro ha (Hp.keep H6)))
end Go.Proofs.YtjlfjjgjghdokaaGreatDoor
