/- Sync: the ledger's live entries become the story's: the walk. Printed by gen13.py. -/
import Derived.Test.YtjlfjjgjghdokaaGreatDoorLw23
set_option linter.unusedVariables false
namespace Go.Proofs.YtjlfjjgjghdokaaGreatDoor
open Go Go.Proofs Go.Wk
def wantL (es : List En) : List (Key × En) := es.map fun x => (x.k, x)
theorem wantL_snoc (es : List En) (x : En) : wantL (es ++ [x]) = wantL es ++ [(x.k, x)] := by unfold wantL; rw [List.map_append]; rfl
theorem want_new {es : List En} {x : En} (h : (((es ++ [x]).map kl).map Prod.fst).Nodup) : lkI x.k (wantL es) 0 = none := by
  have hn : x.k ∉ (es.map kl).map Prod.fst := by
    rw [List.map_append, List.map_append] at h
    intro hm
    exact (List.nodup_append.1 h).2.2 _ hm x.k (by simp [kl]) rfl
  have gen : ∀ (l : List En) (i : Nat), x.k ∉ (l.map kl).map Prod.fst → lkI x.k (wantL l) i = none := by
    intro l
    induction l with
    | nil => intro i _; rfl
    | cons p r ih =>
      intro i hm
      rw [List.map_cons, List.map_cons, List.mem_cons, not_or] at hm
      show (if p.k = x.k then _ else lkI x.k (wantL r) (i + 1)) = none
      rw [if_neg (fun e => hm.1 e.symm)]
      exact ih (i + 1) hm.2
  exact gen es 0 hn
theorem want_lk {k : Key} : ∀ {es : List En}, lk k (wantL es) = none → ∀ ls, (k, ls) ∉ es.map kl
  | [], _, ls, hm => by cases hm
  | x :: r, h, ls, hm => by
    have h : (if x.k = k then some x else lk k (wantL r)) = none := h
    split at h
    · cases h
    · rename_i hne
      rw [List.map_cons] at hm
      rcases List.mem_cons.1 hm with e | hm
      · exact hne (congrArg Prod.fst e).symm
      · exact want_lk h ls hm
theorem want_some {k : Key} : ∀ {es : List En} {x : En}, lk k (wantL es) = some x → x ∈ es ∧ x.k = k
  | y :: r, x, h => by
    have h : (if y.k = k then some y else lk k (wantL r)) = some x := h
    split at h
    · rename_i e
      have e2 := Option.some.inj h
      rw [← e2]
      exact ⟨List.mem_cons_self, e⟩
    · obtain ⟨h1, h2⟩ := want_some h
      exact ⟨List.mem_cons_of_mem _ h1, h2⟩
/-- Alike: just if it is among the story's. -/
theorem same_in {E : List En} (hnd : ((E.map kl).map Prod.fst).Nodup) {x u : En} (hx : x ∈ E) (hk : x.k = u.k) : sameB x.k u.k x.ls u.ls = true ↔ kl u ∈ E.map kl := by
  unfold sameB
  rw [eqK_iff.2 hk, Bool.true_and, legsEq_iff]
  constructor
  · intro e
    have : kl x = kl u := by unfold kl; rw [hk, e]
    rw [← this]
    exact List.mem_map_of_mem hx
  · intro hm
    have := key_eq hnd (List.mem_map_of_mem (f := kl) hx) hm hk
    exact congrArg Prod.snd this
theorem en_in {w : World} {B : Base} {S : List Asn} {F : List Fact} (H : Hp B S F w) (es : List En) [hp : InF F (EnF es)] {x : En} (h : x ∈ es) : Hp B S (Sl legR (.slice x.s.A x.s.n x.s.c) x.ls :: F) w := H.facts fun I ha f hf => by
  rcases List.mem_cons.1 hf with rfl | hf
  · exact ha (EnF es) hp.mem x h
  · exact ha f hf
structure EOk (loan : Int) (E : List (Key × List Leg)) : Prop where
  ek : EK loan E
  right : ∀ e, e ∈ E → rightB e.1 e.2 = true
  kin : ∀ e, e ∈ E → keyIn e.1
  sml : ∀ e, e ∈ E → ∀ g, g ∈ e.2 → Go.Proofs.YtjlfjjgjghdokaaGreatDoor.sml g.amt
theorem takeS {α : Type} {l : List α} {i : Nat} {x : α} (h : l[i]? = some x) : l.take (i + 1) = l.take i ++ [x] := by
  obtain ⟨hi, e⟩ := List.getElem?_eq_some_iff.1 h
  rw [List.take_succ_eq_append_getElem hi, e]
theorem split_at {α : Type} {l : List α} {i : Nat} {x : α} (h : l[i]? = some x) : l = l.take i ++ x :: l.drop (i + 1) := by
  obtain ⟨hi, e⟩ := List.getElem?_eq_some_iff.1 h
  rw [← e, List.getElem_cons_drop, List.take_append_drop]
structure SS where
  i : Nat
  d : Led
set_option maxHeartbeats 8000000 in
set_option maxRecDepth 20000 in
theorem sync (p : Nat) (o : Lo) (l : Nat) (d0 : Led) (hI : Inv d0) (hd : d0.lns.length ≤ 90000) (X : Int) (hb : LB d0 X) (hX : X ≤ 4000000000000000000) (hlo : inK .u32 o.S.loan) (hE : EOk o.S.loan (o.h.es.map kl)) (h12 : o.h.es.length ≤ 12) (hl12 : (liveOf o.S.loan d0).length ≤ 12) (w : World) (M I : BS)
    (H : Hp ⟨w, M, I⟩ [blk p (loC o) 141, row 71 5 (.slice o.h.A o.h.es.length o.h.c) o.h.es.length (ensC o.h.es), ledO l d0] [EnF o.h.es, LnF d0.lns] w) :
    Ctr Tryz.prog 31 [.pointer (some ⟨p, 0, none⟩), .pointer (some ⟨l, 0, none⟩)] w M I (fun _ : Led => .nilIface) (fun d => SyncR d0 o.S.loan (o.h.es.map kl) X d) (fun d => [blk p (loC o) 141, row 71 5 (.slice o.h.A o.h.es.length o.h.c) o.h.es.length (ensC o.h.es), ledO l d]) (fun d => [LnF d.lns, EnF o.h.es]) := by
  refine Exe.of_ev tok Tryz.call31 Tryz.func31 rfl rfl rfl ?_
  refine makeMap_rule H keyV enV fun mp w1 H1 => ?_
  have H1 : Hp ⟨w, M, I⟩ [mapO mp keyV enV (wantL (o.h.es.take 0)), row 71 5 (.slice o.h.A o.h.es.length o.h.c) o.h.es.length (ensC o.h.es), blk p (loC o) 141, ledO l d0] [EnF o.h.es, LnF d0.lns] w1 := by
    have e0 : wantL (o.h.es.take 0) = [] := by rw [List.take_zero]; rfl
    rw [e0]
    exact Hp.keep H1
  refine load_rule tok H1 (v := .slice o.h.A o.h.es.length o.h.c) rfl ?_
  refine loop_out tok (σ := Nat) (τ := Unit) 8778913153152 1 (fun i => [(34, .int .i64 (i : Int))]) (fun i w' => i ≤ o.h.es.length ∧ Hp ⟨w, M, I⟩ [mapO mp keyV enV (wantL (o.h.es.take i)), row 71 5 (.slice o.h.A o.h.es.length o.h.c) o.h.es.length (ensC o.h.es), blk p (loC o) 141, ledO l d0] [EnF o.h.es, LnF d0.lns] w') (fun i => o.h.es.length - i) 0
    (fun _ => []) (fun _ w' => Hp ⟨w, M, I⟩ [mapO mp keyV enV (wantL o.h.es), row 71 5 (.slice o.h.A o.h.es.length o.h.c) o.h.es.length (ensC o.h.es), blk p (loC o) 141, ledO l d0] [EnF o.h.es, LnF d0.lns] w') rfl rfl ⟨rfl, trivial⟩ ⟨Nat.zero_le _, H1⟩ ?_ ?_
  · intro i j w2 hW
    have hi := hW.1
    have H2 := hW.2
    refine brd (fun q2 => ?_) (fun q2 => ?_)
    · have hil : i < o.h.es.length := Int.ofNat_lt.1 q2
      have ew : IntKind.i64.wrap ((i : Int) + 1) = ((i + 1 : Nat) : Int) := w64 (by omega) (by omega)
      refine Exists.elim (show ∃ u, o.h.es[i]? = some u from ⟨_, List.getElem?_eq_getElem hil⟩) fun u hu => ?_
      have ht := takeS hu
      have hnd : (((o.h.es.take i ++ [u]).map kl).map Prod.fst).Nodup := by
        rw [← ht, List.map_take, List.map_take]
        exact hE.ek.nd.sublist (List.take_sublist _ _)
      have hnew := want_new hnd
      have eput : putL u.k u (wantL (o.h.es.take i)) = wantL (o.h.es.take (i + 1)) := by rw [putL_none _ _ _ 0 hnew, ht, wantL_snoc]
      refine Exists.elim (row_at (A := o.h.A) (n := o.h.es.length) (c := o.h.c) H2 (by omega)) fun g hA => ?_
      refine idx_ownA tok hA rfl rfl (Int.natCast_nonneg i) q2 ?_
      refine row_ldA (A := o.h.A) (n := o.h.es.length) (c := o.h.c) tok H2 (enV u) hA (ens_get hu) ?_
      refine alloc_as tok H2 [.int .u32 0, .int .i32 0, .int .u8 0, .int .u32 0, .slice none 0 0] rfl rfl rfl fun y w3 H3 => ?_
      refine store_as tok H3 (enC u) rfl rfl rfl rfl rfl fun w4 H4 => ?_
      refine load_rule tok H4 (v := keyV u.k) rfl ?_
      refine load_rule tok H4 (v := enV u) rfl ?_
      refine mapUpd_rule (n := mp) (kf := keyV) (vf := enV) (l := wantL (o.h.es.take i)) (k := u.k) (v := u) tok H4 rfl keyKeys rfl rfl fun w5 H5 => ?_
      rw [eput] at H5
      refine Exists.intro (i + 1) (And.intro ⟨congrArg (Value.int .i64) ew, trivial⟩ (And.intro ?_ ⟨?_, Hp.keep H5⟩))
      · show o.h.es.length - (i + 1) < o.h.es.length - i
        omega
      · omega
    · have hie : i = o.h.es.length := by
        have q2 : ¬ (i : Int) < (o.h.es.length : Int) := q2
        omega
      have hall : o.h.es.take i = o.h.es := by rw [hie]; exact List.take_length
      rw [hall] at H2
      exact Exists.intro () (And.intro trivial (Hp.keep H2))
  intro _ j1 w2 H2
  refine load_rule tok H2 (v := .int .u32 o.S.loan) rfl ?_
  refine call_rule H2 (fun M I _ h => loanGood l d0 hI (by omega) o.S.loan hl12 _ M I h) fun hv w3 hhv H3 => ?_
  have hHl : hv.es.length ≤ 12 := by
    have e := hhv.1.length_eq
    rw [List.length_map] at e
    omega
  have hHp : (hv.es.map kl).Perm (liveOf o.S.loan d0) := hhv.1
  have H3 : Hp ⟨w, M, I⟩ [mapO mp keyV enV (wantL o.h.es), row 71 5 (.slice o.h.A o.h.es.length o.h.c) o.h.es.length (ensC o.h.es), row 71 5 (.slice hv.A hv.es.length hv.c) hv.es.length (ensC hv.es), blk p (loC o) 141, ledO l d0] [EnF hv.es, EnF o.h.es, LnF d0.lns] w3 := Hp.keep H3
  refine loop_out tok (σ := SS) (τ := Led) 37778930737057254874640 3 (fun s => [(50, .int .i64 (s.i : Int))]) (fun s w' => s.i ≤ hv.es.length ∧ St1 d0 ((hv.es.map kl).take s.i) (o.h.es.map kl) X s.d ∧ Hp ⟨w, M, I⟩ [mapO mp keyV enV (wantL o.h.es), row 71 5 (.slice o.h.A o.h.es.length o.h.c) o.h.es.length (ensC o.h.es), row 71 5 (.slice hv.A hv.es.length hv.c) hv.es.length (ensC hv.es), blk p (loC o) 141, ledO l s.d] [EnF hv.es, EnF o.h.es, LnF s.d.lns] w') (fun s => hv.es.length - s.i) ⟨0, d0⟩
    (fun _ => []) (fun d w' => St1 d0 (hv.es.map kl) (o.h.es.map kl) X d ∧ Hp ⟨w, M, I⟩ [mapO mp keyV enV (wantL o.h.es), row 71 5 (.slice o.h.A o.h.es.length o.h.c) o.h.es.length (ensC o.h.es), row 71 5 (.slice hv.A hv.es.length hv.c) hv.es.length (ensC hv.es), blk p (loC o) 141, ledO l d] [EnF hv.es, EnF o.h.es, LnF d.lns] w') rfl rfl ⟨rfl, trivial⟩ ⟨Nat.zero_le _, st1_nil hI hb, H3⟩ ?_ ?_
  · intro s j w4 hW
    have hi := hW.1
    have hS := hW.2.1
    have H4 := hW.2.2
    have hsl : (sans ((hv.es.map kl).take s.i) (o.h.es.map kl)).length ≤ 12 := by
      refine Nat.le_trans (List.length_filter_le _ _) ?_
      rw [List.length_take]
      omega
    have hdl : s.d.lns.length ≤ 100000 := by
      have := hS.len
      omega
    refine brd (fun q2 => ?_) (fun q2 => ?_)
    · have hil : s.i < hv.es.length := Int.ofNat_lt.1 q2
      have ew : IntKind.i64.wrap ((s.i : Int) + 1) = ((s.i + 1 : Nat) : Int) := w64 (by omega) (by omega)
      refine Exists.elim (show ∃ u, hv.es[s.i]? = some u from ⟨_, List.getElem?_eq_getElem hil⟩) fun u hu => ?_
      have hku : (hv.es.map kl)[s.i]? = some (kl u) := by rw [List.getElem?_map, hu]; rfl
      have ht := takeS hku
      have hsp := split_at hku
      have hlv : lv s.d u.k = some u.ls := st1_at hI hHp hsp hS
      refine Exists.elim (row_at (A := hv.A) (n := hv.es.length) (c := hv.c) H4 (by omega)) fun g hA => ?_
      have H4b := hpEn H4 hv.es hu
      have hnu := H4b.sll (A := u.s.A) (n := u.s.n) (c := u.s.c) (r := legR) (xs := u.ls)
      refine idx_ownA tok hA rfl rfl (Int.natCast_nonneg s.i) q2 ?_
      refine row_ldA (A := hv.A) (n := hv.es.length) (c := hv.c) tok H4b (enV u) hA (ens_get hu) ?_
      refine alloc_as tok H4b [.int .u32 0, .int .i32 0, .int .u8 0, .int .u32 0, .slice none 0 0] rfl rfl rfl fun y w5 H5 => ?_
      refine store_as tok H5 (enC u) rfl rfl rfl rfl rfl fun w6 H6 => ?_
      refine load_rule tok H6 (v := keyV u.k) rfl ?_
      refine Exists.elim (lv_some hS.inv hlv) fun ix hix => Exists.elim hix fun lx hlx => ?_
      have hkin : keyIn u.k := by
        have := (hS.inv.ok lx (List.mem_of_getElem? hlx.2.2.1)).2.1
        rw [hlx.2.2.2.1] at this
        exact this
      have hXb : X + 100000000000000000 * ((sans ((hv.es.map kl).take s.i) (o.h.es.map kl)).length : Int) ≤ 8000000000000000000 := by omega
      refine (Option.eq_none_or_eq_some (lk u.k (wantL o.h.es))).elim (fun hno => ?_) (fun hsome => ?_)
      · have hnot : kl u ∉ o.h.es.map kl := want_lk hno u.ls
        refine lookup_ok_rule (n := mp) (kf := keyV) (vf := enV) (l := wantL o.h.es) (k := u.k) (v := .tuple #[.agg #[.int .u32 0, .int .i32 0, .int .u8 0, .int .u32 0, .slice none 0 0], .bool false]) tok H6 rfl rfl rfl keyKeys rfl (by rw [hno]; rfl) ?_
        refine alloc_as tok H6 [.int .u32 0, .int .i32 0, .int .u8 0, .int .u32 0, .slice none 0 0] rfl rfl rfl fun y2 w7 H7 => ?_
        refine store_as tok H7 [.int .u32 0, .int .i32 0, .int .u8 0, .int .u32 0, .slice none 0 0] rfl rfl rfl rfl rfl fun w7b H7b => ?_
        refine load_rule tok H7b (v := keyV u.k) rfl ?_
        refine call_rule H7b (fun M I _ h => revGood l s.d hS.inv hdl _ hS.lb hXb u.k hkin ix hlx.1 _ M I h) fun d' w8 hr H8 => ?_
        have hst := St1.rev (h := kl u) hS hnot rfl hr
        refine Exists.intro ⟨s.i + 1, d'⟩ (And.intro ⟨congrArg (Value.int .i64) ew, trivial⟩ (And.intro ?_ ⟨?_, ?_, Hp.keep H8⟩))
        · show hv.es.length - (s.i + 1) < hv.es.length - s.i
          omega
        · show s.i + 1 ≤ hv.es.length
          omega
        · show St1 d0 ((hv.es.map kl).take (s.i + 1)) (o.h.es.map kl) X d'
          rw [ht]
          exact hst
      · refine Exists.elim hsome fun x hx => ?_
        have hxx := want_some hx
        have hiff := same_in hE.ek.nd hxx.1 hxx.2
        have H6b := en_in H6 o.h.es hxx.1
        have hnx := H6b.sll (A := x.s.A) (n := x.s.n) (c := x.s.c) (r := legR) (xs := x.ls)
        have hxl : x.ls.length ≤ 9223372036854775807 := Nat.le_trans hnx.2.1 hnx.2.2
        refine lookup_ok_rule (n := mp) (kf := keyV) (vf := enV) (l := wantL o.h.es) (k := u.k) (v := .tuple #[enV x, .bool true]) tok H6b rfl rfl rfl keyKeys rfl (by rw [hx]; rfl) ?_
        refine alloc_as tok H6b [.int .u32 0, .int .i32 0, .int .u8 0, .int .u32 0, .slice none 0 0] rfl rfl rfl fun y2 w7 H7 => ?_
        refine store_as tok H7 (enC x) rfl rfl rfl rfl rfl fun w7b H7b => ?_
        refine load_rule tok H7b (v := enV x) rfl ?_
        refine load_rule tok H7b (v := enV u) rfl ?_
        refine call_rule H7b (fun M I _ h => same_ x.k u.k x.s.A u.s.A x.s.n x.s.c u.s.n u.s.c x.ls u.ls _ M I h ⟨hnx.1, hxl⟩ hnu.1) fun _ w8 _ H8 => ?_
        refine br (fun q3 => ?_) (fun q3 => ?_)
        · have hin := hiff.1 q3
          refine Exists.intro ⟨s.i + 1, s.d⟩ (And.intro ⟨congrArg (Value.int .i64) ew, trivial⟩ (And.intro ?_ ⟨?_, ?_, Hp.keep H8⟩))
          · show hv.es.length - (s.i + 1) < hv.es.length - s.i
            omega
          · show s.i + 1 ≤ hv.es.length
            omega
          · show St1 d0 ((hv.es.map kl).take (s.i + 1)) (o.h.es.map kl) X s.d
            rw [ht]
            exact St1.keep hS hin
        · have hnot : kl u ∉ o.h.es.map kl := fun hm => by
            have q4 := hiff.2 hm
            rw [q3] at q4
            cases q4
          refine load_rule tok H8 (v := keyV u.k) rfl ?_
          refine call_rule H8 (fun M I _ h => revGood l s.d hS.inv hdl _ hS.lb hXb u.k hkin ix hlx.1 _ M I h) fun d' w8 hr H8 => ?_
          have hst := St1.rev (h := kl u) hS hnot rfl hr
          refine Exists.intro ⟨s.i + 1, d'⟩ (And.intro ⟨congrArg (Value.int .i64) ew, trivial⟩ (And.intro ?_ ⟨?_, ?_, Hp.keep H8⟩))
          · show hv.es.length - (s.i + 1) < hv.es.length - s.i
            omega
          · show s.i + 1 ≤ hv.es.length
            omega
          · show St1 d0 ((hv.es.map kl).take (s.i + 1)) (o.h.es.map kl) X d'
            rw [ht]
            exact hst
    · have hie : s.i = (hv.es.map kl).length := by
        have q2 : ¬ (s.i : Int) < (hv.es.length : Int) := q2
        rw [List.length_map]
        omega
      have hall : (hv.es.map kl).take s.i = hv.es.map kl := by rw [hie]; exact List.take_length
      rw [hall] at hS
      exact Exists.intro s.d (And.intro trivial ⟨hS, Hp.keep H4⟩)
  intro d1 j3 w4 hW4
  have hS1 := hW4.1
  have H4 := hW4.2
  have hs1l : (sans (hv.es.map kl) (o.h.es.map kl)).length ≤ 12 := by
    refine Nat.le_trans (List.length_filter_le _ _) ?_
    rw [List.length_map]
    exact hHl
  have hd1l : d1.lns.length ≤ 90012 := by
    have := hS1.len
    omega
  refine load_rule tok H4 (v := .slice o.h.A o.h.es.length o.h.c) rfl ?_
  refine call_rule H4 (fun M I _ h => sortedE o.h h12 _ M I h) fun sv w5 hsv H5 => ?_
  have hSp : (sv.es.map kl).Perm (o.h.es.map kl) := hsv.1.map kl
  have hsl12 : sv.es.length ≤ 12 := by
    have := hsv.1.length_eq
    omega
  refine Exists.elim (show ∃ Y, Y = X + 100000000000000000 * ((sans (hv.es.map kl) (o.h.es.map kl)).length : Int) from ⟨_, rfl⟩) fun Y hY => ?_
  have hb1 : LB d1 Y := by rw [hY]; exact hS1.lb
  have H5 : Hp ⟨w, M, I⟩ [row 71 5 (.slice o.h.A o.h.es.length o.h.c) o.h.es.length (ensC o.h.es), row 71 5 (.slice sv.A sv.es.length sv.c) sv.es.length (ensC sv.es), blk p (loC o) 141, ledO l d1] [EnF sv.es, EnF o.h.es, LnF d1.lns] w5 := Hp.keep H5
  refine loop_rule tok (σ := SS) 1298074212215855267903365733138448 (fun s => [(81, .int .i64 (s.i : Int))]) (fun s w' => s.i ≤ sv.es.length ∧ St2 d1 (hv.es.map kl) ((sv.es.map kl).take s.i) (o.h.es.map kl) Y s.d ∧ Hp ⟨w, M, I⟩ [row 71 5 (.slice o.h.A o.h.es.length o.h.c) o.h.es.length (ensC o.h.es), row 71 5 (.slice sv.A sv.es.length sv.c) sv.es.length (ensC sv.es), blk p (loC o) 141, ledO l s.d] [EnF sv.es, EnF o.h.es, LnF s.d.lns] w') (fun s => sv.es.length - s.i) ⟨0, d1⟩ rfl rfl ⟨rfl, trivial⟩ ⟨Nat.zero_le _, st2_nil hS1.inv hb1, H5⟩ ?_
  intro s j w6 hW
  have hi := hW.1
  have hS := hW.2.1
  have H6 := hW.2.2
  have hsl : (sans ((sv.es.map kl).take s.i) (hv.es.map kl)).length ≤ 12 := by
    refine Nat.le_trans (List.length_filter_le _ _) ?_
    rw [List.length_take]
    omega
  have hdl : s.d.lns.length ≤ 99000 := by
    have := hS.len
    omega
  refine brd (fun q2 => ?_) (fun q2 => ?_)
  · have hil : s.i < sv.es.length := Int.ofNat_lt.1 q2
    have ew : IntKind.i64.wrap ((s.i : Int) + 1) = ((s.i + 1 : Nat) : Int) := w64 (by omega) (by omega)
    refine Exists.elim (show ∃ u, sv.es[s.i]? = some u from ⟨_, List.getElem?_eq_getElem hil⟩) fun u hu => ?_
    have hku : (sv.es.map kl)[s.i]? = some (kl u) := by rw [List.getElem?_map, hu]; rfl
    have ht := takeS hku
    have hsp := split_at hku
    have hpp : ((sv.es.map kl).take s.i ++ kl u :: (sv.es.map kl).drop (s.i + 1)).Perm (o.h.es.map kl) := by rw [← hsp]; exact hSp
    have huE : kl u ∈ o.h.es.map kl := hpp.mem_iff.1 (by simp)
    have hkin : keyIn u.k := hE.kin _ huE
    have hri : rightB u.k u.ls = true := hE.right _ huE
    have hsm : ∀ g, g ∈ u.ls → sml g.amt := hE.sml _ huE
    have hXb : Y + 100000000000000000 * ((sans ((sv.es.map kl).take s.i) (hv.es.map kl)).length : Int) ≤ 8000000000000000000 := by omega
    refine Exists.elim (row_at (A := sv.A) (n := sv.es.length) (c := sv.c) H6 (by omega)) fun g hA => ?_
    have H6b := hpEn H6 sv.es hu
    have hnu := H6b.sll (A := u.s.A) (n := u.s.n) (c := u.s.c) (r := legR) (xs := u.ls)
    refine idx_ownA tok hA rfl rfl (Int.natCast_nonneg s.i) q2 ?_
    refine row_ldA (A := sv.A) (n := sv.es.length) (c := sv.c) tok H6b (enV u) hA (ens_get hu) ?_
    refine alloc_as tok H6b [.int .u32 0, .int .i32 0, .int .u8 0, .int .u32 0, .slice none 0 0] rfl rfl rfl fun y w7 H7 => ?_
    refine store_as tok H7 (enC u) rfl rfl rfl rfl rfl fun w8 H8 => ?_
    refine load_rule tok H8 (v := enV u) rfl ?_
    refine (Classical.em (kl u ∈ hv.es.map kl)).elim (fun hin => ?_) (fun hout => ?_)
    · have hlv : lv s.d u.k = some u.ls := st2_in hI hHp hE.ek hS1 hpp hS hin
      refine Exists.elim (lv_some hS.inv hlv) fun ix hix => Exists.elim hix fun lx hlx => ?_
      have hx0 := hlx.2.1
      have hi1 : lk u.k s.d.live = some ((ix.toNat : Nat) : Int) := by rw [Int.toNat_of_nonneg hx0]; exact hlx.1
      have hsame : sameB lx.k u.k lx.ls u.ls = true := by rw [hlx.2.2.2.1, hlx.2.2.2.2]; exact sameSelf _ _
      refine call_rule H8 (fun M I _ h => postTwice l s.d hS.inv (by omega) u.k hkin (by rw [hlx.1]; rfl) u.s.A u.s.n u.s.c u.ls hri _ M I h) fun f w9 _ H9 => ?_
      refine load_rule tok H9 (v := keyV u.k) rfl ?_
      refine call_rule H9 (fun M I _ h => liveGood l s.d hS.inv (by omega) u.k ix.toNat lx hi1 hlx.2.2.1 _ M I h) fun a w10 _ H10 => ?_
      have hna := H10.sll (A := a.A) (n := a.n) (c := a.c) (r := legR) (xs := lx.ls)
      have hal : lx.ls.length ≤ 9223372036854775807 := Nat.le_trans hna.2.1 hna.2.2
      refine alloc_as tok H10 [.int .u32 0, .int .i32 0, .int .u8 0, .int .u32 0, .slice none 0 0] rfl rfl rfl fun y2 w11 H11 => ?_
      refine store_as tok H11 [.int .u32 lx.k.loan, .int .i32 lx.k.day, .int .u8 lx.k.kind, .int .u32 lx.k.seq, .slice a.A a.n a.c] rfl rfl rfl rfl rfl fun w12 H12 => ?_
      refine call_rule H12 (fun M I _ h => isTwice f u.k.loan _ M I h) fun _ w13 _ H13 => ?_
      refine load_rule tok H13 (v := .agg #[.int .u32 lx.k.loan, .int .i32 lx.k.day, .int .u8 lx.k.kind, .int .u32 lx.k.seq, .slice a.A a.n a.c]) rfl ?_
      refine load_rule tok H13 (v := enV u) rfl ?_
      refine call_rule H13 (fun M I _ h => same_ lx.k u.k a.A u.s.A a.n a.c u.s.n u.s.c lx.ls u.ls _ M I h ⟨hna.1, hal⟩ hnu.1) fun _ w14 _ H14 => ?_
      refine br (fun _ => ?_) (fun q3 => absurd (hsame.symm.trans q3) (by decide))
      refine Exists.intro ⟨s.i + 1, s.d⟩ (And.intro ⟨congrArg (Value.int .i64) ew, trivial⟩ (And.intro ?_ ⟨?_, ?_, Hp.keep H14⟩))
      · show sv.es.length - (s.i + 1) < sv.es.length - s.i
        omega
      · show s.i + 1 ≤ sv.es.length
        omega
      · show St2 d1 (hv.es.map kl) ((sv.es.map kl).take (s.i + 1)) (o.h.es.map kl) Y s.d
        rw [ht]
        exact St2.keep hS hin
    · have hlv : lv s.d u.k = none := st2_out hI hHp hE.ek hS1 hpp hS hout
      have hno := (lv_none hS.inv).1 hlv
      refine call_rule H8 (fun M I _ h => postNew l s.d hS.inv (by omega) _ hS.lb hXb u.k hkin hno u.s.A u.s.n u.s.c u.ls hri hsm _ M I h) fun d' w9 hpr H9 => ?_
      have hst := St2.post (h := kl u) hS hout (lkE hE.ek.nd huE) rfl hpr
      refine Exists.elim hpr.lns fun sw hsw => ?_
      have hl1 : lk u.k d'.live = some ((s.d.lns.length : Nat) : Int) := by rw [hpr.live, lk_put_eq]
      have hl2 : d'.lns[s.d.lns.length]? = some ⟨u.k, sw, 0, u.ls⟩ := by
        rw [hsw, List.getElem?_append_right (Nat.le_refl _), Nat.sub_self]
        rfl
      have hdl2 : d'.lns.length ≤ 100000 := by
        rw [hsw, List.length_append]
        show s.d.lns.length + 1 ≤ 100000
        omega
      refine load_rule tok H9 (v := keyV u.k) rfl ?_
      refine call_rule H9 (fun M I _ h => liveGood l d' hpr.inv hdl2 u.k s.d.lns.length ⟨u.k, sw, 0, u.ls⟩ hl1 hl2 _ M I h) fun a w10 _ H10 => ?_
      refine alloc_as tok H10 [.int .u32 0, .int .i32 0, .int .u8 0, .int .u32 0, .slice none 0 0] rfl rfl rfl fun y2 w11 H11 => ?_
      refine store_as tok H11 [.int .u32 u.k.loan, .int .i32 u.k.day, .int .u8 u.k.kind, .int .u32 u.k.seq, .slice a.A a.n a.c] rfl rfl rfl rfl rfl fun w12 H12 => ?_
      refine call_rule H12 (fun M I _ h => isNo _ M I h) fun _ w13 _ H13 => ?_
      refine Exists.intro ⟨s.i + 1, d'⟩ (And.intro ⟨congrArg (Value.int .i64) ew, trivial⟩ (And.intro ?_ ⟨?_, ?_, Hp.keep H13⟩))
      · show sv.es.length - (s.i + 1) < sv.es.length - s.i
        omega
      · show s.i + 1 ≤ sv.es.length
        omega
      · show St2 d1 (hv.es.map kl) ((sv.es.map kl).take (s.i + 1)) (o.h.es.map kl) Y d'
        rw [ht]
        exact hst
  · have hie : s.i = (sv.es.map kl).length := by
      have q2 : ¬ (s.i : Int) < (sv.es.length : Int) := q2
      rw [List.length_map]
      omega
    have hall : (sv.es.map kl).take s.i = sv.es.map kl := by rw [hie]; exact List.take_length
    rw [hall] at hS
    exact Exists.intro s.d (And.intro rfl (And.intro (sync_end hI hHp hE.ek hSp hS1 hY hS) (Hp.keep H6)))
end Go.Proofs.YtjlfjjgjghdokaaGreatDoor
set_option linter.unusedVariables false
namespace Go.Proofs.YtjlfjjgjghdokaaGreatDoor
open Go Go.Proofs Go.Wk Go.Pl
/-- What is due is due behind the day on which the loan began. -/
theorem roll_gt {hs : List Int} {s k d : Int} (h : rollR hs s k (some d)) (hk : 1 ≤ k) : s < d := by
  obtain ⟨p, ⟨y, m, dd, hD, e1, hp⟩, h2⟩ := h
  cases p with
  | none => cases h2
  | some n =>
    have h3 : nextR hs n (some d) := h2
    have h4 := h3.1
    unfold plainV at hp
    split at hp
    · cases hp
    · rename_i hlt
      have hp := Option.some.inj hp
      have y1 := hD.y1; have m1 := hD.m1; have m2 := hD.m2; have d1 := hD.d1; have d2 := hD.d2
      obtain ⟨a1, a2, a3, a4⟩ := on_ok (y := y) (m := m) (n := k) (by omega) (by omega)
      have hl := len_pos (y := onY y m k) (m := onM y m k)
      have hdd : 1 ≤ (if dd = lenM y m then lenM (onY y m k) (onM y m k) else min dd (lenM (onY y m k) (onM y m k))) := by
        split <;> omega
      have hn : beg (onY y m k) + offM (onY y m k) (onM y m k) ≤ n := by
        rw [hp]
        unfold numD
        omega
      have hs2 : s = beg y + offM y m + dd - 1 := by rw [← e1]; rfl
      have key : beg y + offM y m + lenM y m ≤ beg (onY y m k) + offM (onY y m k) (onM y m k) := by
        by_cases q : onY y m k = y
        · have hm : m < onM y m k := by unfold onY at q; unfold onM; omega
          have := off_mono (y := y) m1 hm (by omega)
          rw [q]
          omega
        · have hy : y + 1 ≤ onY y m k := by unfold onY at q ⊢; omega
          have b1 := beg_mono (y := y + 1) (z := onY y m k) (by omega) hy
          have b2 := beg_succ y1
          have b3 := off_end (y := y)
          have b4 := off_mono (y := y) m1 (show m < 13 by omega) (Int.le_refl _)
          have b5 := (off_bounds (y := onY y m k) (m := onM y m k) a3 (by omega)).1
          omega
      omega
theorem dues_gt {t : Tm} {hs : List Int} {n : Nat} {ds : List (Int × Int)} (h : DuesR t hs n ds) : ∀ d, d ∈ ds → t.start < d.1 := fun d hd => by
  obtain ⟨i, hi, e⟩ := List.mem_iff_getElem.1 hd
  have hi : i < ds.length := hi
  obtain ⟨day, s, r1, r2, r3⟩ := h.at_ i (by rw [← h.len]; exact hi)
  rw [List.getElem?_eq_getElem hi, e] at r3
  have := roll_gt r1 (by omega)
  rw [(Prod.mk.inj (Option.some.inj r3)).1]
  exact this
theorem late_no {t : Tm} {loan day paid : Int} {l : List (Int × Int)} {i : Nat} {f : Int} (h : ∀ d, d ∈ l → ¬ d.1 + t.grace ≤ day) : lateGo t loan day paid l i f = (i, f, []) := by
  cases l with
  | nil => rfl
  | cons d r => exact lateGo_stop (h d List.mem_cons_self)
theorem night_no {S : Sto} {day : Int} {x : St} {next : Nat} (hs : x.status = 1) (hd : ∀ d, d ∈ S.dues → ¬ d.1 + S.t.grace ≤ day) :
    nightF S day x next = ({ x with int := x.int + (brings S.t.parts S.t.basis x.prin x.carry day).1, carry := (brings S.t.parts S.t.basis x.prin x.carry day).2 }, next, [(⟨S.loan, day, 2, 0⟩, refMade [⟨3, (brings S.t.parts S.t.basis x.prin x.carry day).1⟩, ⟨6, -(brings S.t.parts S.t.basis x.prin x.carry day).1⟩])]) := by
  unfold nightF
  rw [if_pos hs, late_no (fun d hm => hd d (List.mem_of_mem_drop hm))]
  rfl
theorem dayN_act {n : Int} (h : dayB n = true) : dayN 1 n = 1 := by
  obtain ⟨r, hr⟩ := one_ex (b := 1) h
  rw [dayN_eq hr]
  obtain ⟨y, m, d, _, _, e⟩ := hr.ex
  rw [e]
  rfl
def aw8 : Tm := ⟨1, 120000, 60000, 1, 12, numD 2024 1 31, 1500, 10⟩
theorem aw8Ok : TmOk aw8 := ⟨.inl rfl, by decide, by decide, .inl rfl, by decide, by decide, by decide, by decide⟩
theorem aw8In : TmIn aw8 := ⟨⟨by decide, by decide⟩, ⟨by decide, by decide⟩, ⟨by decide, by decide⟩, ⟨by decide, by decide⟩, ⟨by decide, by decide⟩, ⟨by decide, by decide⟩, ⟨by decide, by decide⟩, ⟨by decide, by decide⟩⟩
theorem br8 {n : Int} (h : dayB n = true) (p c : Nat) : brings 60000 1 (p : Int) (c : Int) n = ((((p * 60000 + c) / 365000000 : Nat) : Int), (((p * 60000 + c) % 365000000 : Nat) : Int)) := by
  unfold brings
  rw [dayN_act h]
  unfold dayX unitN
  rw [if_neg (by decide)]
  simp only [Int.toNat_natCast]
  rfl
theorem sm_ (n : Int) (h : (decide (-100000000000000000 ≤ n) && decide (n ≤ 100000000000000000)) = true) : sml n := by
  rw [Bool.and_eq_true, decide_eq_true_eq, decide_eq_true_eq] at h
  exact h
def s8 : Int := numD 2024 1 31
def kB8 : Key × List Leg := (⟨1, s8, 1, 0⟩, [⟨1, -120000⟩, ⟨2, 120000⟩])
def kA8 : Key × List Leg := (⟨1, s8, 2, 0⟩, [⟨3, 19⟩, ⟨6, -19⟩])
def kC8 : Key × List Leg := (⟨1, s8 + 1, 2, 0⟩, [⟨3, 20⟩, ⟨6, -20⟩])
def kP8 : Key × List Leg := (⟨1, s8 + 1, 4, 1⟩, [⟨1, 60000⟩, ⟨2, -59981⟩, ⟨3, -19⟩, ⟨4, 0⟩, ⟨5, 0⟩])
def kD8 : Key × List Leg := (⟨1, s8 + 1, 2, 0⟩, [⟨3, 10⟩, ⟨6, -10⟩])
structure S8 (S : Sto) : Prop where
  loan : S.loan = 1
  t : S.t = aw8
  dues : ∀ d, d ∈ S.dues → aw8.start < d.1
theorem s8_day : dayB s8 = true ∧ dayB (s8 + 1) = true := by decide
theorem day0 {S : Sto} (h : S8 S) (l : List Ev) (hl : eatF S s8 l { st0 with prin := 120000, status := 1 } = ({ st0 with prin := 120000, status := 1 }, l, [])) {th : Int} (hth : s8 ≤ th) :
    oneDay S th s8 ⟨st0, 0, l, []⟩ = ⟨⟨0, 19, 120000, 265000000, 0, 0, 0, 0, 1⟩, 0, l, [kB8, kA8]⟩ := by
  have ht := h.t
  have e0 : S.t.start = s8 := by rw [ht]; rfl
  have e1 : S.t.prin = 120000 := by rw [ht]; rfl
  have hb : boardF S s8 ⟨st0, 0, l, []⟩ = ⟨{ st0 with prin := 120000, status := 1 }, 0, l, [kB8]⟩ := by
    unfold boardF
    rw [if_pos e0.symm, e1, h.loan, mk_dn (a := 1) (b := 2) (by decide) (by decide) (by decide) (sm_ _ (by decide)) (sm_ _ (by decide))]
    rfl
  have ha : ateF S s8 ⟨{ st0 with prin := 120000, status := 1 }, 0, l, [kB8]⟩ = ⟨{ st0 with prin := 120000, status := 1 }, 0, l, [kB8]⟩ := by
    unfold ateF
    rw [hl]
    rfl
  have hq := br8 s8_day.1 120000 0
  have hn := night_no (S := S) (day := s8) (x := { st0 with prin := 120000, status := 1 }) (next := 0) rfl (fun d hd => by
    have := h.dues d hd
    rw [ht]
    show ¬ d.1 + 10 ≤ s8
    have e : aw8.start = s8 := rfl
    omega)
  unfold oneDay
  rw [if_pos hth, hb, ha]
  unfold sleepF
  rw [hn, ht, h.loan]
  have e2 : brings aw8.parts aw8.basis ({ st0 with prin := 120000, status := 1 } : St).prin ({ st0 with prin := 120000, status := 1 } : St).carry s8 = (19, 265000000) := hq
  rw [e2, mk_up (a := 3) (b := 6) (by decide) (by decide) (by decide) (sm_ _ (by decide)) (sm_ _ (by decide))]
  rfl
theorem tell8a {S : Sto} (h : S8 S) : tellF S (s8 + 1) [] = ⟨⟨0, 39, 120000, 165000000, 0, 0, 0, 0, 1⟩, 0, [], [kB8, kA8, kC8]⟩ := by
  have ht := h.t
  have e0 : S.t.start = s8 := by rw [ht]; rfl
  have e3 : (s8 + 1 + 2 - S.t.start).toNat = 3 := by rw [e0]; decide
  have hq := br8 s8_day.2 120000 265000000
  have hn := night_no (S := S) (day := s8 + 1) (x := ⟨0, 19, 120000, 265000000, 0, 0, 0, 0, 1⟩) (next := 0) rfl (fun d hd => by
    have := h.dues d hd
    rw [ht]
    show ¬ d.1 + 10 ≤ s8 + 1
    have e : aw8.start = s8 := rfl
    omega)
  have d0 := day0 h [] rfl (th := s8 + 1) (by omega)
  unfold tellF
  rw [e3]
  show oneDay S (s8 + 1) (S.t.start + ((2 : Nat) : Int)) (oneDay S (s8 + 1) (S.t.start + ((1 : Nat) : Int)) (oneDay S (s8 + 1) (S.t.start + ((0 : Nat) : Int)) ⟨st0, 0, [], []⟩)) = _
  rw [e0, show s8 + ((0 : Nat) : Int) = s8 by omega, d0, show s8 + ((1 : Nat) : Int) = s8 + 1 by omega]
  have d1 : oneDay S (s8 + 1) (s8 + 1) ⟨⟨0, 19, 120000, 265000000, 0, 0, 0, 0, 1⟩, 0, [], [kB8, kA8]⟩ = ⟨⟨0, 39, 120000, 165000000, 0, 0, 0, 0, 1⟩, 0, [], [kB8, kA8, kC8]⟩ := by
    have hb : boardF S (s8 + 1) ⟨⟨0, 19, 120000, 265000000, 0, 0, 0, 0, 1⟩, 0, [], [kB8, kA8]⟩ = ⟨⟨0, 19, 120000, 265000000, 0, 0, 0, 0, 1⟩, 0, [], [kB8, kA8]⟩ := by
      unfold boardF
      rw [if_neg (by rw [e0]; omega)]
    unfold oneDay
    rw [if_pos (by omega), hb]
    have ha : ateF S (s8 + 1) ⟨⟨0, 19, 120000, 265000000, 0, 0, 0, 0, 1⟩, 0, [], [kB8, kA8]⟩ = ⟨⟨0, 19, 120000, 265000000, 0, 0, 0, 0, 1⟩, 0, [], [kB8, kA8]⟩ := rfl
    rw [ha]
    unfold sleepF
    show TS.mk (nightF S (s8 + 1) ⟨0, 19, 120000, 265000000, 0, 0, 0, 0, 1⟩ 0).1 (nightF S (s8 + 1) ⟨0, 19, 120000, 265000000, 0, 0, 0, 0, 1⟩ 0).2.1 [] ([kB8, kA8] ++ (nightF S (s8 + 1) ⟨0, 19, 120000, 265000000, 0, 0, 0, 0, 1⟩ 0).2.2) = _
    rw [hn, ht, h.loan]
    have e2 : brings aw8.parts aw8.basis (⟨0, 19, 120000, 265000000, 0, 0, 0, 0, 1⟩ : St).prin (⟨0, 19, 120000, 265000000, 0, 0, 0, 0, 1⟩ : St).carry (s8 + 1) = (20, 165000000) := hq
    rw [e2, mk_up (a := 3) (b := 6) (by decide) (by decide) (by decide) (sm_ _ (by decide)) (sm_ _ (by decide))]
    rfl
  rw [d1]
  have hb : boardF S (s8 + ((2 : Nat) : Int)) ⟨⟨0, 39, 120000, 165000000, 0, 0, 0, 0, 1⟩, 0, [], [kB8, kA8, kC8]⟩ = ⟨⟨0, 39, 120000, 165000000, 0, 0, 0, 0, 1⟩, 0, [], [kB8, kA8, kC8]⟩ := by
    unfold boardF
    rw [if_neg (by rw [e0]; omega)]
  unfold oneDay
  rw [if_neg (by omega), hb]
  rfl
theorem eat_one {S : Sto} {day : Int} {e : Ev} {x y : St} {ls : List Leg} (h1 : e.day = day) (hee : eventF x e = (y, some ls)) : eatF S day [e] x = (y, [], [(⟨S.loan, day, e.kind, e.seq⟩, refMade ls)]) := by
  unfold eatF
  rw [if_pos (by omega), if_pos h1, hee]
  rfl
def ev8 : Ev := ⟨1, s8 + 1, 4, 60000⟩
theorem tell8b {S : Sto} (h : S8 S) : tellF S (s8 + 1) [ev8] = ⟨⟨0, 10, 60019, 216140000, 60000, 0, 0, 60000, 1⟩, 0, [], [kB8, kA8, kP8, kD8]⟩ := by
  have ht := h.t
  have e0 : S.t.start = s8 := by rw [ht]; rfl
  have e3 : (s8 + 1 + 2 - S.t.start).toNat = 3 := by rw [e0]; decide
  have hq := br8 s8_day.2 60019 265000000
  have hn := night_no (S := S) (day := s8 + 1) (x := ⟨0, 0, 60019, 265000000, 60000, 0, 0, 60000, 1⟩) (next := 0) rfl (fun d hd => by
    have := h.dues d hd
    rw [ht]
    show ¬ d.1 + 10 ≤ s8 + 1
    have e : aw8.start = s8 := rfl
    omega)
  have d0 := day0 h [ev8] (by unfold eatF; rw [if_neg (by show ¬ s8 + 1 ≤ s8; omega)]) (th := s8 + 1) (by omega)
  unfold tellF
  rw [e3]
  show oneDay S (s8 + 1) (S.t.start + ((2 : Nat) : Int)) (oneDay S (s8 + 1) (S.t.start + ((1 : Nat) : Int)) (oneDay S (s8 + 1) (S.t.start + ((0 : Nat) : Int)) ⟨st0, 0, [ev8], []⟩)) = _
  rw [e0, show s8 + ((0 : Nat) : Int) = s8 by omega, d0, show s8 + ((1 : Nat) : Int) = s8 + 1 by omega]
  have d1 : oneDay S (s8 + 1) (s8 + 1) ⟨⟨0, 19, 120000, 265000000, 0, 0, 0, 0, 1⟩, 0, [ev8], [kB8, kA8]⟩ = ⟨⟨0, 10, 60019, 216140000, 60000, 0, 0, 60000, 1⟩, 0, [], [kB8, kA8, kP8, kD8]⟩ := by
    have hb : boardF S (s8 + 1) ⟨⟨0, 19, 120000, 265000000, 0, 0, 0, 0, 1⟩, 0, [ev8], [kB8, kA8]⟩ = ⟨⟨0, 19, 120000, 265000000, 0, 0, 0, 0, 1⟩, 0, [ev8], [kB8, kA8]⟩ := by
      unfold boardF
      rw [if_neg (by rw [e0]; omega)]
    unfold oneDay
    rw [if_pos (by omega), hb]
    have hee : eventF ⟨0, 19, 120000, 265000000, 0, 0, 0, 0, 1⟩ ev8 = (⟨0, 0, 60019, 265000000, 60000, 0, 0, 60000, 1⟩, some (ptL 0 19 59981 ++ [⟨1, 60000⟩, ⟨5, -0⟩])) := by decide
    have hea : eatF S (s8 + 1) [ev8] ⟨0, 19, 120000, 265000000, 0, 0, 0, 0, 1⟩ = (⟨0, 0, 60019, 265000000, 60000, 0, 0, 60000, 1⟩, [], [kP8]) := by
      rw [eat_one (S := S) (day := s8 + 1) rfl hee, mk_pay (sm_ _ (by decide)) (sm_ _ (by decide)) (sm_ _ (by decide)) (sm_ _ (by decide)) (sm_ _ (by decide)), h.loan]
      rfl
    have ha : ateF S (s8 + 1) ⟨⟨0, 19, 120000, 265000000, 0, 0, 0, 0, 1⟩, 0, [ev8], [kB8, kA8]⟩ = ⟨⟨0, 0, 60019, 265000000, 60000, 0, 0, 60000, 1⟩, 0, [], [kB8, kA8, kP8]⟩ := by
      unfold ateF
      rw [hea]
      rfl
    rw [ha]
    unfold sleepF
    show TS.mk (nightF S (s8 + 1) ⟨0, 0, 60019, 265000000, 60000, 0, 0, 60000, 1⟩ 0).1 (nightF S (s8 + 1) ⟨0, 0, 60019, 265000000, 60000, 0, 0, 60000, 1⟩ 0).2.1 [] ([kB8, kA8, kP8] ++ (nightF S (s8 + 1) ⟨0, 0, 60019, 265000000, 60000, 0, 0, 60000, 1⟩ 0).2.2) = _
    rw [hn, ht, h.loan]
    have e2 : brings aw8.parts aw8.basis (⟨0, 0, 60019, 265000000, 60000, 0, 0, 60000, 1⟩ : St).prin (⟨0, 0, 60019, 265000000, 60000, 0, 0, 60000, 1⟩ : St).carry (s8 + 1) = (10, 216140000) := hq
    rw [e2, mk_up (a := 3) (b := 6) (by decide) (by decide) (by decide) (sm_ _ (by decide)) (sm_ _ (by decide))]
    rfl
  rw [d1]
  have hb : boardF S (s8 + ((2 : Nat) : Int)) ⟨⟨0, 10, 60019, 216140000, 60000, 0, 0, 60000, 1⟩, 0, [], [kB8, kA8, kP8, kD8]⟩ = ⟨⟨0, 10, 60019, 216140000, 60000, 0, 0, 60000, 1⟩, 0, [], [kB8, kA8, kP8, kD8]⟩ := by
    unfold boardF
    rw [if_neg (by rw [e0]; omega)]
  unfold oneDay
  rw [if_neg (by omega), hb]
  rfl
end Go.Proofs.YtjlfjjgjghdokaaGreatDoor
set_option linter.unusedVariables false
namespace Go.Proofs.YtjlfjjgjghdokaaGreatDoor
open Go Go.Proofs Go.Wk Go.Pl
def aw8L : List UInt8 := [108, 101, 118, 101, 108, 32, 49, 50, 48, 48, 46, 48, 48, 32, 54, 48, 48, 48, 48, 32, 97, 99, 116, 117, 97, 108, 32, 49, 50, 32, 50, 48, 50, 52, 45, 48, 49, 45, 51, 49, 32, 49, 53, 46, 48, 48, 32, 49, 48]
theorem aw8Txt : TmT aw8 (strOf aw8L) := by
  refine ⟨2024, 1, 31, awD, rfl, ?_⟩
  congr 1
  have e1 : bsL (lvName aw8.kind) = [108, 101, 118, 101, 108] := by decide
  have e2 : coinL aw8.prin = [49, 50, 48, 48, 46, 48, 48] := by simp [aw8, coinL, Lib.decDigits]
  have e3 : Lib.itoa aw8.parts = [54, 48, 48, 48, 48] := by simp [aw8, Lib.itoa, Lib.decDigits]
  have e4 : bsL (spName aw8.basis) = [97, 99, 116, 117, 97, 108] := by decide
  have e5 : Lib.itoa aw8.months = [49, 50] := by simp [aw8, Lib.itoa, Lib.decDigits]
  have e6 := (awDat [] [] []).1
  have e7 : coinL aw8.fee = [49, 53, 46, 48, 48] := by simp [aw8, coinL, Lib.decDigits]
  have e8 : Lib.itoa aw8.grace = [49, 48] := by simp [aw8, Lib.itoa, Lib.decDigits]
  unfold tmWords
  rw [e1, e2, e3, e4, e5, e6, e7, e8]
  decide
theorem aw8Read (w : World) (M I : BS) (hM : ∀ b, ¬ M b) (H : Hp ⟨w, M, I⟩ [] [LibF] w) :
    Ctr Tryz.prog 39 [.string (strOf aw8L)] w M I (fun _ : Unit => .tuple #[tmV aw8, .nilIface]) (fun _ => True) (fun _ => []) (fun _ => []) :=
  (tmRead aw8L (by decide) w M I hM H).imp fun a w' hφ hh => by
    rcases hφ with ⟨h1, h2, h3, h4⟩ | ⟨_, _, h3⟩
    · have e : a.1 = aw8 := TmT.inj h2 h3.parts.1 aw8Ok aw8In.parts.1 h4 aw8Txt
      exact ⟨(), by unfold teV; rw [h1, e]; rfl, trivial, hh⟩
    · exact absurd aw8Txt (h3 aw8 aw8Ok aw8In)
theorem told8a {S : Sto} (h : S8 S) {x : St} {E : List (Key × List Leg)} (ht : told S (s8 + 1) [] x E) : x = ⟨0, 39, 120000, 165000000, 0, 0, 0, 0, 1⟩ ∧ E = [kB8, kA8, kC8] := by
  obtain ⟨l, h1, _, h3, h4⟩ := ht
  have e : l = [] := h1.eq_nil
  have em : mn (s8 + 1) 3640000 = s8 + 1 := by decide
  rw [em, e, tell8a h] at h3 h4
  exact ⟨h3, h4⟩
theorem told8b {S : Sto} (h : S8 S) {x : St} {E : List (Key × List Leg)} (ht : told S (s8 + 1) [⟨ev8, false⟩] x E) : x = ⟨0, 10, 60019, 216140000, 60000, 0, 0, 60000, 1⟩ ∧ E = [kB8, kA8, kP8, kD8] := by
  obtain ⟨l, h1, _, h3, h4⟩ := ht
  have e : l = [ev8] := List.perm_singleton.1 h1
  have em : mn (s8 + 1) 3640000 = s8 + 1 := by decide
  rw [em, e, tell8b h] at h3 h4
  exact ⟨h3, h4⟩
theorem eok8a : EOk 1 [kB8, kA8, kC8] := by
  refine ⟨⟨by decide, by decide⟩, by decide +kernel, ?_, ?_⟩
  · intro e he
    simp only [List.mem_cons, List.not_mem_nil, or_false] at he
    rcases he with rfl | rfl | rfl <;> exact ⟨⟨by decide, by decide⟩, ⟨by decide, by decide⟩, ⟨by decide, by decide⟩, ⟨by decide, by decide⟩⟩
  · intro e he g hg
    simp only [List.mem_cons, List.not_mem_nil, or_false] at he
    rcases he with rfl | rfl | rfl
    all_goals
      simp only [kB8, kA8, kC8, List.mem_cons, List.not_mem_nil, or_false] at hg
      rcases hg with rfl | rfl <;> exact sm_ _ (by decide)
theorem eok8b : EOk 1 [kB8, kA8, kP8, kD8] := by
  refine ⟨⟨by decide, by decide⟩, by decide +kernel, ?_, ?_⟩
  · intro e he
    simp only [List.mem_cons, List.not_mem_nil, or_false] at he
    rcases he with rfl | rfl | rfl | rfl <;> exact ⟨⟨by decide, by decide⟩, ⟨by decide, by decide⟩, ⟨by decide, by decide⟩, ⟨by decide, by decide⟩⟩
  · intro e he g hg
    simp only [List.mem_cons, List.not_mem_nil, or_false] at he
    rcases he with rfl | rfl | rfl | rfl
    · simp only [kB8, List.mem_cons, List.not_mem_nil, or_false] at hg
      rcases hg with rfl | rfl <;> exact sm_ _ (by decide)
    · simp only [kA8, List.mem_cons, List.not_mem_nil, or_false] at hg
      rcases hg with rfl | rfl <;> exact sm_ _ (by decide)
    · simp only [kP8, List.mem_cons, List.not_mem_nil, or_false] at hg
      rcases hg with rfl | rfl | rfl | rfl | rfl <;> exact sm_ _ (by decide)
    · simp only [kD8, List.mem_cons, List.not_mem_nil, or_false] at hg
      rcases hg with rfl | rfl <;> exact sm_ _ (by decide)
theorem lnNil {B : Base} {S : List Asn} {F : List Fact} {w : World} (H : Hp B S F w) : Hp B S (LnF [] :: F) w := H.facts fun I ha f hf => by
  rcases List.mem_cons.1 hf with rfl | hf
  · intro x hx; cases hx
  · exact ha f hf
theorem live_nil (loan : Int) : liveOf loan ⟨[], [], []⟩ = [] := rfl
theorem sync8 {d1 d2 : Led} {X : Int} (h1 : SyncR ⟨[], [], []⟩ 1 [kB8, kA8, kC8] 0 d1) (h2 : SyncR d1 1 [kB8, kA8, kP8, kD8] X d2) : d1.lns.length = 3 ∧ d2.lns.length = 6 := by
  have e1 := h1.len
  rw [live_nil] at e1
  have e1 : d1.lns.length = 3 := e1
  have e2 := h2.len
  have q1 : (sans (liveOf 1 d1) [kB8, kA8, kP8, kD8]).length = 1 := by
    rw [sans_len h1.live (List.Perm.refl _)]
    decide
  have q2 : (sans [kB8, kA8, kP8, kD8] (liveOf 1 d1)).length = 2 := by
    rw [sans_len (List.Perm.refl _) h1.live]
    decide
  rw [q1, q2, e1] at e2
  exact ⟨e1, e2⟩
/-- An event that may be taken. -/
theorem takeGood (p : Nat) (o : Lo) (ok : LoOk o) (h18 : o.ps.length ≤ 18) (e : Ev) (hday : -2147483648 ≤ e.day ∧ e.day ≤ 2147483647) (today : Int) (ht : -2147483648 ≤ today ∧ today ≤ 2147483647) (hn : takeE o e today = none) (w : World) (M I : BS) (H : Hp ⟨w, M, I⟩ (loA p o) (loF o) w) :
    Ctr Tryz.prog 30 [.pointer (some ⟨p, 0, none⟩), evV e, .int .i32 today] w M I (fun _ : Lo => .nilIface) (fun r => r.S = o.S ∧ r.sb = o.sb ∧ r.dv = o.dv ∧ r.thr = o.thr ∧ r.ps = o.ps ++ [⟨e, false⟩] ∧ LoOk r ∧ told o.S o.thr (o.ps ++ [⟨e, false⟩]) r.x (r.h.es.map kl)) (fun r => loA p r) (fun r => loF r) := by
  refine (loanTake p o ok h18 e hday today ht w M I H).imp fun a w' hφ h => ?_
  unfold tkOk at hφ
  rw [hn] at hφ
  obtain ⟨h1, h2⟩ := hφ
  refine ⟨a.o, by rw [h1], h2, ?_⟩
  rw [h1] at h
  exact Hp.keep h
theorem aw8_one : IntKind.i32.wrap (aw8.start + 1) = s8 + 1 ∧ IntKind.i32.wrap (aw8.start + 2) = s8 + 2 ∧ aw8.start = s8 ∧ 0 ≤ s8 ∧ s8 ≤ 3600000 := by decide
theorem s8_of {o : Lo} (h : NewLo 1 aw8 [] o) : S8 o.S := ⟨h.loan, h.tm, fun d hd => dues_gt h.dues d hd⟩
theorem LoOk.run {o : Lo} (ok : LoOk o) {day : Int} {x : St} {h : Hd} (h1 : o.S.t.start - 1 ≤ day) (h2 : day ≤ o.S.t.start + 10000) : LoOk { o with thr := day, x := x, h := h } := ⟨ok.sto, ok.pn, ok.ev, ok.few, ⟨h1, h2⟩, ok.loan⟩
set_option maxHeartbeats 4000000 in
set_option maxRecDepth 20000 in
theorem awake18 (w : World) (M I : BS) (hM : ∀ b, ¬ M b) (H : Hp ⟨w, M, I⟩ [] [LibF] w) :
    Ctr Tryz.prog 24 [] w M I (fun _ : Unit => .bool true) (fun _ => True) (fun _ => []) (fun _ => []) := by
  have e8 := aw8_one
  have e81 := e8.1
  have e82 := e8.2.1
  have e83 := e8.2.2.1
  have e84 := e8.2.2.2
  refine Exe.of_ev tok Tryz.call24 Tryz.func24 rfl rfl rfl ?_
  refine call_rule H (fun M I h0 h => aw8Read _ M I (h0 rfl) h) fun _ w1 _ H1 => ?_
  refine alloc_as tok H1 (tmC ⟨0, 0, 0, 0, 0, 0, 0, 0⟩) rfl rfl rfl fun b w2 H2 => ?_
  refine store_as tok H2 (tmC aw8) rfl rfl rfl rfl rfl fun w3 H3 => ?_
  refine load_rule tok H3 (v := tmV aw8) rfl ?_
  have H4 : Hp ⟨w, M, I⟩ [blk b (tmC aw8) 28] [Sl dayR (.slice none 0 0) [], LibF] w3 := Hp.keep (Hp.slNil dayR H3)
  refine call_rule H4 (fun M I h0 h => loanNew 1 ⟨by decide, by decide⟩ aw8 aw8In none 0 0 [] (tmB_iff.2 aw8Ok) (by decide) _ M I (h0 rfl) h) fun a w4 ha H5 => ?_
  refine call_rule H5 (fun M I _ h => newX _ M I h) fun l w5 _ H6 => ?_
  have hs8 := s8_of ha
  have hst : a.2.S.t.start = s8 := by rw [ha.tm]; exact e83
  have hthr : a.2.thr = s8 - 1 := by rw [ha.thr, e83]
  have hps : a.2.ps = [] := ha.ps
  refine load_rule tok H6 (v := .int .i32 aw8.start) rfl ?_
  have H6 : Hp ⟨w, M, I⟩ [blk a.1 (loC a.2) 141, row 105 5 (.slice a.2.pv.A a.2.pv.n a.2.pv.c) a.2.pv.n (pasC a.2.ps), blk a.2.sb (stoC a.2.S a.2.dv) 120, row 71 5 (.slice a.2.h.A a.2.h.es.length a.2.h.c) a.2.h.es.length (ensC a.2.h.es), ledO l ⟨[], [], []⟩, blk b (tmC aw8) 28] [Sl dueR (.slice a.2.dv.A a.2.dv.n a.2.dv.c) a.2.S.dues] w5 := Hp.keep H6
  refine call_rule H6 (fun M I _ h => loanRun a.1 a.2 ha.ok aw8.start (by rw [hthr, e83]; omega) (by rw [hst, e83]; omega) (by rw [e83]; omega) _ M I h) fun r1 w6 hr1 H7 => ?_
  refine Exists.elim (show ∃ o1 : Lo, o1 = { a.2 with thr := aw8.start, x := r1.1, h := r1.2 } from ⟨_, rfl⟩) fun o1 eo1 => ?_
  have ok1 : LoOk o1 := by rw [eo1]; exact ha.ok.run (by rw [hst, e83]; omega) (by rw [hst, e83]; omega)
  have es1 : o1.S = a.2.S := by rw [eo1]
  have et1 : o1.thr = aw8.start := by rw [eo1]
  have ep1 : o1.ps = [] := by rw [eo1]; exact hps
  have H7 : Hp ⟨w, M, I⟩ [blk a.1 (loC o1) 141, row 105 5 (.slice o1.pv.A o1.pv.n o1.pv.c) o1.pv.n (pasC o1.ps), blk o1.sb (stoC o1.S o1.dv) 120, row 71 5 (.slice o1.h.A o1.h.es.length o1.h.c) o1.h.es.length (ensC o1.h.es), ledO l ⟨[], [], []⟩, blk b (tmC aw8) 28] [Sl dueR (.slice o1.dv.A o1.dv.n o1.dv.c) o1.S.dues] w6 := by
    rw [eo1]
    exact Hp.keep H7
  have hst1 : o1.S.t.start = s8 := by rw [es1]; exact hst
  refine load_rule tok H7 (v := .int .i32 aw8.start) rfl ?_
  refine call_rule H7 (fun M I _ h => loanRun a.1 o1 ok1 (IntKind.i32.wrap (aw8.start + 1)) (by rw [et1, e81, e83]) (by rw [hst1, e81]; omega) (by rw [e81]; omega) _ M I h) fun r2 w7 hr2 H8 => ?_
  refine Exists.elim (show ∃ o2 : Lo, o2 = { o1 with thr := IntKind.i32.wrap (aw8.start + 1), x := r2.1, h := r2.2 } from ⟨_, rfl⟩) fun o2 eo2 => ?_
  have ok2 : LoOk o2 := by rw [eo2]; exact ok1.run (by rw [hst1, e81]; omega) (by rw [hst1, e81]; omega)
  have es2 : o2.S = a.2.S := by rw [eo2]; exact es1
  have et2 : o2.thr = s8 + 1 := by rw [eo2]; exact e81
  have ep2 : o2.ps = [] := by rw [eo2]; exact ep1
  have H8 : Hp ⟨w, M, I⟩ [blk a.1 (loC o2) 141, row 105 5 (.slice o2.pv.A o2.pv.n o2.pv.c) o2.pv.n (pasC o2.ps), blk o2.sb (stoC o2.S o2.dv) 120, row 71 5 (.slice o2.h.A o2.h.es.length o2.h.c) o2.h.es.length (ensC o2.h.es), ledO l ⟨[], [], []⟩, blk b (tmC aw8) 28] [Sl dueR (.slice o2.dv.A o2.dv.n o2.dv.c) o2.S.dues, EnF o2.h.es, LnF (Led.mk [] [] []).lns] w7 := by
    rw [eo2]
    exact Hp.keep (lnNil H8)
  have hq2 : o2.x = ⟨0, 39, 120000, 165000000, 0, 0, 0, 0, 1⟩ ∧ o2.h.es.map kl = [kB8, kA8, kC8] := by
    have ht : told o2.S (s8 + 1) [] o2.x (o2.h.es.map kl) := by
      have h0 := hr2
      rw [e81, ep1] at h0
      rw [eo2]
      exact h0
    rw [es2] at ht
    exact told8a hs8 ht
  have hloan2 : o2.S.loan = 1 := by rw [es2]; exact ha.loan
  have hl2 : o2.h.es.length = 3 := by
    have := congrArg List.length hq2.2
    rwa [List.length_map] at this
  refine call_rule H8 (fun M I _ h => sync a.1 o2 l ⟨[], [], []⟩ inv_nil (by decide) 0 lb_nil (by decide) ok2.loan (by rw [hloan2, hq2.2]; exact eok8a) (by omega) (by rw [live_nil]; decide) _ M I h) fun d1 w8 hd1 H9 => ?_
  have hd1 : SyncR ⟨[], [], []⟩ 1 [kB8, kA8, kC8] 0 d1 := by
    have h0 := hd1
    rw [hloan2, hq2.2] at h0
    exact h0
  have hlen1 : d1.lns.length = 3 := by
    have e1 := hd1.len
    rw [live_nil] at e1
    exact e1
  refine call_rule H9 (fun M I _ h => lenX l d1 _ M I h) fun _ w9 _ H10 => ?_
  have g1 : (!((d1.lns.length : Int) == 3)) = false := by rw [hlen1]; rfl
  refine br (fun q => absurd (g1.symm.trans q) (by decide)) (fun _ => ?_)
  refine load_rule tok H10 (v := .int .i32 aw8.start) rfl ?_
  refine load_rule tok H10 (v := .int .i32 aw8.start) rfl ?_
  have ee : (⟨1, IntKind.i32.wrap (aw8.start + 1), 4, 60000⟩ : Ev) = ev8 := by rw [e81]; rfl
  have hn : takeE o2 ⟨1, IntKind.i32.wrap (aw8.start + 1), 4, 60000⟩ (IntKind.i32.wrap (aw8.start + 2)) = none := by
    rw [ee, e82]
    have q1 : ¬ evRB ev8 = false := by decide
    have q2 : ¬ 0 ≤ findI ev8.seq o2.ps 0 := by rw [ep2]; decide
    have q3 : ¬ opnB o2 ev8.day (s8 + 2) = false := by
      have h1 : opnB o2 (s8 + 1) (s8 + 2) = true := by
        unfold opnB
        rw [es2, hst, et2, decide_eq_true (by omega), decide_eq_true (by omega), decide_eq_true (by omega), decide_eq_true (by omega)]
        rfl
      have h2 : opnB o2 ev8.day (s8 + 2) = true := h1
      rw [h2]
      decide
    have q4 : ¬ o2.x.status = 2 := by rw [hq2.1]; decide
    have q5 : ¬ (o2.x.status = 3 ∧ ev8.kind ≠ 4) := by rw [hq2.1]; decide
    unfold takeE
    rw [if_neg q1, if_neg q2, if_neg q3, if_neg q4, if_neg q5]
  have H10 : Hp ⟨w, M, I⟩ [blk a.1 (loC o2) 141, row 105 5 (.slice o2.pv.A o2.pv.n o2.pv.c) o2.pv.n (pasC o2.ps), blk o2.sb (stoC o2.S o2.dv) 120, row 71 5 (.slice o2.h.A o2.h.es.length o2.h.c) o2.h.es.length (ensC o2.h.es), ledO l d1, blk b (tmC aw8) 28] [Sl dueR (.slice o2.dv.A o2.dv.n o2.dv.c) o2.S.dues, EnF o2.h.es, LnF d1.lns] w9 := Hp.keep H10
  refine call_rule H10 (fun M I _ h => takeGood a.1 o2 ok2 (by rw [ep2]; decide) ⟨1, IntKind.i32.wrap (aw8.start + 1), 4, 60000⟩ (by show -2147483648 ≤ IntKind.i32.wrap (aw8.start + 1) ∧ IntKind.i32.wrap (aw8.start + 1) ≤ 2147483647; rw [e81]; omega) (IntKind.i32.wrap (aw8.start + 2)) (by rw [e82]; omega) hn _ M I h) fun r w10 hr H11 => ?_
  have hrs : r.S = a.2.S := by rw [hr.1]; exact es2
  have okr : LoOk r := hr.2.2.2.2.2.1
  have hloan3 : r.S.loan = 1 := by rw [hrs]; exact ha.loan
  have hq3 : r.x = ⟨0, 10, 60019, 216140000, 60000, 0, 0, 60000, 1⟩ ∧ r.h.es.map kl = [kB8, kA8, kP8, kD8] := by
    have ht := hr.2.2.2.2.2.2
    rw [ee, ep2, et2, es2] at ht
    exact told8b hs8 ht
  have hl3 : r.h.es.length = 4 := by
    have := congrArg List.length hq3.2
    rwa [List.length_map] at this
  have hlv1 : (liveOf r.S.loan d1).length ≤ 12 := by
    rw [hloan3, hd1.live.length_eq]
    decide
  have hX : (0 : Int) + 100000000000000000 * (((liveOf 1 ⟨[], [], []⟩).length + [kB8, kA8, kC8].length : Nat) : Int) ≤ 4000000000000000000 := by rw [live_nil]; decide
  refine call_rule H11 (fun M I _ h => sync a.1 r l d1 hd1.inv (by omega) _ hd1.lb hX okr.loan (by rw [hloan3, hq3.2]; exact eok8b) (by omega) hlv1 _ M I h) fun d2 w11 hd2 H12 => ?_
  have hlen2 : d2.lns.length = 6 := by
    have h0 := hd2
    rw [hloan3, hq3.2] at h0
    exact (sync8 hd1 h0).2
  refine call_rule H12 (fun M I _ h => lenX l d2 _ M I h) fun _ w12 _ H13 => ?_
  have g2 : ((d2.lns.length : Int) == 6) = true := by rw [hlen2]; rfl
  refine br (fun _ => ?_) (fun q => absurd (g2.symm.trans q) (by decide))
  refine call_rule H13 (fun M I _ h => loanState a.1 r _ M I h) fun _ w13 _ H14 => ?_
  refine Exists.intro () (And.intro (congrArg Value.bool ?_) (And.intro trivial (Hp.keep H14)))
  show (r.x.cash == 60000) = true
  rw [hq3.1]
  rfl
end Go.Proofs.YtjlfjjgjghdokaaGreatDoor
set_option linter.unusedVariables false
namespace Go.Proofs.YtjlfjjgjghdokaaGreatDoor
open Go Go.Proofs Go.Wk
theorem ownTm18 (t : Tm) (hin : TmIn t) : CB 26 [tmV t] (rtV t) := by
  intro w M I H
  have es : IntKind.i64.wrap t.start = t.start := by
    obtain ⟨a, b⟩ := hin.start
    simp only [kLo, kHi] at a b
    exact i64w (by omega) (by omega)
  refine Exe.of_ev tok Tryz.call26 Tryz.func26 rfl rfl rfl ?_
  refine box_as H (tmC t) rfl fun r w1 H1 => ?_
  refine alloc_as tok H1 (rtC ⟨0, 0, 0, 0, 0, 0, 0, 0⟩) rfl rfl rfl fun o w2 H2 => ?_
  refine load_rule tok H2 (v := .int .u8 t.kind) rfl ?_
  refine load_rule tok H2 (v := .int .i64 t.prin) rfl ?_
  refine load_rule tok H2 (v := .int .u32 t.parts) rfl ?_
  refine load_rule tok H2 (v := .int .u8 t.basis) rfl ?_
  refine load_rule tok H2 (v := .int .i64 t.months) rfl ?_
  refine load_rule tok H2 (v := .int .i32 t.start) rfl ?_
  refine load_rule tok H2 (v := .int .i64 t.fee) rfl ?_
  refine load_rule tok H2 (v := .int .i64 t.grace) rfl ?_
  refine store_as tok H2 (rtC ⟨t.kind, t.prin, t.parts, t.basis, t.months, IntKind.i64.wrap t.start, t.fee, t.grace⟩) rfl rfl rfl rfl rfl fun w3 H3 => ?_
  rw [es] at H3
  refine Exists.intro ⟨o, 0, none⟩ (Exists.intro (rtV t) (And.intro rfl (And.intro (Hp.ld (T := tb) tok H3 rfl) ?_)))
  exact Exists.intro () (And.intro rfl (And.intro trivial (Hp.keep H3)))
/-- With no more than 24 months. -/
def smT (t : Tm) : Tm := { t with months := if 24 < t.months then 24 else t.months }
theorem smT_in {t : Tm} (h : TmIn t) : TmIn (smT t) := by
  have hm := h.months
  refine ⟨h.kind, h.prin, h.parts, h.basis, ?_, h.start, h.fee, h.grace⟩
  show inK .i64 (if 24 < t.months then 24 else t.months)
  split
  · exact ⟨by decide, by decide⟩
  · exact hm
theorem small_ (t : Tm) : CB 25 [tmV t] (tmV (smT t)) := by
  intro w M I H
  refine Exe.of_ev tok Tryz.call25 Tryz.func25 rfl rfl rfl ?_
  refine box_as H (tmC t) rfl fun r w1 H1 => ?_
  refine alloc_as tok H1 (tmC ⟨0, 0, 0, 0, 0, 0, 0, 0⟩) rfl rfl rfl fun o w2 H2 => ?_
  refine load_rule tok H2 (v := .int .i64 t.months) rfl ?_
  refine store_as tok H2 (tmC (smT t)) rfl rfl rfl rfl rfl fun w3 H3 => ?_
  refine load_rule tok H3 (v := tmV (smT t)) rfl ?_
  refine store_as tok H3 (tmC (smT t)) rfl rfl rfl rfl rfl fun w4 H4 => ?_
  refine Exists.intro ⟨o, 0, none⟩ (Exists.intro (tmV (smT t)) (And.intro rfl (And.intro (Hp.ld (T := tb) tok H4 rfl) ?_)))
  exact Exists.intro () (And.intro rfl (And.intro trivial (Hp.keep H4)))
/-- Nothing has happened: the loan is active. -/
theorem told_active {S : Sto} (hS : StoOk S) {k : Nat} (hk : k ≤ 1000) {x : St} {E : List (Key × List Leg)} (h : told S (S.t.start - 1 + (k : Int)) [] x E) : x.status = 1 := by
  have hst := hS.ok.start
  obtain ⟨l, h1, _, h3, _⟩ := h
  have e : l = [] := h1.eq_nil
  have em : mn (S.t.start - 1 + (k : Int)) 3640000 = S.t.start - 1 + (k : Int) := by unfold mn; rw [if_neg (by omega)]
  rw [em, e] at h3
  cases k with
  | zero =>
    have e2 : S.t.start - 1 + ((0 : Nat) : Int) = S.t.start - 1 := by omega
    rw [e2, tell_board hS] at h3
    rw [h3]
  | succ k =>
    have e2 : S.t.start - 1 + ((k + 1 : Nat) : Int) = S.t.start + (k : Int) := by omega
    rw [e2] at h3
    rw [h3]
    exact (quiet_tell hS k).status
/-- The loan asx it is run. -/
structure RL where
  i : Nat
  x : St
  h : Hd
@[reducible] def oL (o : Lo) (st : Int) (s : RL) : Lo := { o with thr := st - 1 + (s.i : Int), x := s.x, h := s.h }
end Go.Proofs.YtjlfjjgjghdokaaGreatDoor
