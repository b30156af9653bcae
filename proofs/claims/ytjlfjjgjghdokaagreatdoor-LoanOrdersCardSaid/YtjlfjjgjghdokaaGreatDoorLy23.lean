/- The ledger's live entries become the story's: the plain law. -/
import Derived.Test.YtjlfjjgjghdokaaGreatDoorLy22
set_option linter.unusedVariables false
namespace Go.Proofs.YtjlfjjgjghdokaaGreatDoor
open Go Go.Proofs Go.Wk
/-- What of A isn't in B. -/
def sans (A B : List (Key × List Leg)) : List (Key × List Leg) := A.filter fun h => decide (h ∉ B)
theorem mem_sans {A B : List (Key × List Leg)} {h : Key × List Leg} : h ∈ sans A B ↔ h ∈ A ∧ h ∉ B := by
  unfold sans
  rw [List.mem_filter, decide_eq_true_eq]
theorem sans_in {A B : List (Key × List Leg)} {h : Key × List Leg} (hb : h ∈ B) : sans (A ++ [h]) B = sans A B := by
  unfold sans
  rw [List.filter_append]
  simp [hb]
theorem sans_out {A B : List (Key × List Leg)} {h : Key × List Leg} (hb : h ∉ B) : sans (A ++ [h]) B = sans A B ++ [h] := by
  unfold sans
  rw [List.filter_append]
  simp [hb]
theorem sans_len {A A' B B' : List (Key × List Leg)} (h1 : A.Perm A') (h2 : B.Perm B') : (sans A B).length = (sans A' B').length := by
  have e : sans A B = sans A B' := by
    unfold sans
    refine List.filter_congr fun x _ => ?_
    rw [decide_eq_decide, h2.mem_iff]
  rw [e]
  exact (h1.filter _).length_eq
/-- A line that reverses a live entry; a line that is posted. -/
@[reducible] def rvL (d : Led) (h : Key × List Leg) : Key × Int × List Leg := (h.1, (lk h.1 d.live).getD 0 + 1, h.2.map negL)
@[reducible] def poL (e : Key × List Leg) : Key × Int × List Leg := (e.1, 0, e.2)
/-- Behind i of the entries that stand there. -/
structure St1 (d0 : Led) (H E : List (Key × List Leg)) (d : Led) : Prop where
  inv : Inv d
  bal : Bal d
  legs : Lgs d
  lk : ∀ k, lk k d.live = if k ∈ (sans H E).map Prod.fst then none else lk k d0.live
  ex : d.lns.map stp = d0.lns.map stp ++ (sans H E).map (rvL d0)
  more : ∃ ys, d.lns = d0.lns ++ ys
theorem st1_nil {d0 : Led} {E : List (Key × List Leg)} (hI : Inv d0) (hb : Bal d0) (hl : Lgs d0) : St1 d0 [] E d0 :=
  ⟨hI, hb, hl, fun k => rfl, by simp [sans], ⟨[], by simp⟩⟩
theorem St1.len {d0 : Led} {H E : List (Key × List Leg)} {d : Led} (s : St1 d0 H E d) : d.lns.length = d0.lns.length + (sans H E).length := by
  have := congrArg List.length s.ex
  simpa using this
theorem get_more {a b : List Ln} {j : Nat} {y : Ln} (h : a[j]? = some y) : (a ++ b)[j]? = some y := by
  obtain ⟨hj, _⟩ := List.getElem?_eq_some_iff.1 h
  rw [List.getElem?_append_left hj]
  exact h
theorem St1.lv {d0 : Led} {H E : List (Key × List Leg)} {d : Led} (hI : Inv d0) (s : St1 d0 H E d) (k : Key) : lv d k = if k ∈ (sans H E).map Prod.fst then none else lv d0 k := by
  obtain ⟨ys, hy⟩ := s.more
  unfold Go.Proofs.YtjlfjjgjghdokaaGreatDoor.lv
  rw [s.lk, hy]
  split
  · rfl
  · cases hq : Go.Wk.lk k d0.live with
    | none => rfl
    | some j =>
      obtain ⟨_, y, hx, _⟩ := lk_at hI hq
      show ((d0.lns ++ ys)[j.toNat]?).map _ = (d0.lns[j.toNat]?).map _
      rw [get_more hx, hx]
theorem St1.keep {d0 : Led} {H E : List (Key × List Leg)} {d : Led} {h : Key × List Leg} (s : St1 d0 H E d) (he : h ∈ E) : St1 d0 (H ++ [h]) E d := by
  have e := sans_in (A := H) he
  exact ⟨s.inv, s.bal, s.legs, by rw [e]; exact s.lk, by rw [e]; exact s.ex, s.more⟩
theorem St1.rev {d0 : Led} {H E : List (Key × List Leg)} {d d' : Led} {h : Key × List Leg} {i : Int} (hI : Inv d0) (s : St1 d0 H E d) (he : h ∉ E) (hk : Go.Wk.lk h.1 d.live = some i) (hv : Go.Proofs.YtjlfjjgjghdokaaGreatDoor.lv d h.1 = some h.2) (r : RevR d h.1 i d') : St1 d0 (H ++ [h]) E d' := by
  have e := sans_out (A := H) he
  obtain ⟨x, sv, hx, hl, _⟩ := r.lns
  obtain ⟨ys, hy⟩ := s.more
  have hk0 : Go.Wk.lk h.1 d0.live = some i := by
    have h1 := s.lk h.1
    rw [hk] at h1
    split at h1
    · cases h1
    · exact h1.symm
  have hxk : x.k = h.1 := by
    obtain ⟨_, y, hy, q, _⟩ := lk_at s.inv hk
    rw [hx] at hy
    rw [Option.some.inj hy]
    exact q
  have hxl : x.ls = h.2 := by
    rw [lv_of hk hx] at hv
    exact Option.some.inj hv
  refine ⟨r.inv, bal_rev s.inv s.bal hk r, r.legs, fun k => ?_, ?_, ⟨ys ++ [⟨x.k, sv, i + 1, x.ls.map negL⟩], by rw [hl, hy, List.append_assoc]⟩⟩
  · rw [lk_rev s.inv r, s.lk, e, List.map_append]
    by_cases q : k = h.1
    · rw [if_pos q, if_pos (by rw [q]; simp)]
    · rw [if_neg q]
      have : k ∈ List.map Prod.fst (sans H E) ++ List.map Prod.fst [h] ↔ k ∈ List.map Prod.fst (sans H E) := by
        rw [List.mem_append]
        simp [q]
      simp only [this]
  · rw [hl, e, List.map_append, List.map_append, s.ex, List.append_assoc]
    congr 2
    show [(x.k, i + 1, x.ls.map negL)] = [(h.1, (Go.Wk.lk h.1 d0.live).getD 0 + 1, h.2.map negL)]
    rw [hk0, hxk, hxl]
    rfl
/-- Behind j of the story's entries. -/
structure St2 (d1 : Led) (H A E : List (Key × List Leg)) (d : Led) : Prop where
  inv : Inv d
  bal : Bal d
  legs : Lgs d
  lv : ∀ k, lv d k = if k ∈ (sans A H).map Prod.fst then lk k E else lv d1 k
  ex : d.lns.map stp = d1.lns.map stp ++ (sans A H).map poL
  more : ∃ ys, d.lns = d1.lns ++ ys
theorem st2_nil {d1 : Led} {H E : List (Key × List Leg)} (hI : Inv d1) (hb : Bal d1) (hl : Lgs d1) : St2 d1 H [] E d1 :=
  ⟨hI, hb, hl, fun k => rfl, by simp [sans], ⟨[], by simp⟩⟩
theorem St2.len {d1 : Led} {H A E : List (Key × List Leg)} {d : Led} (s : St2 d1 H A E d) : d.lns.length = d1.lns.length + (sans A H).length := by
  have := congrArg List.length s.ex
  simpa using this
theorem St2.keep {d1 : Led} {H A E : List (Key × List Leg)} {d : Led} {h : Key × List Leg} (s : St2 d1 H A E d) (he : h ∈ H) : St2 d1 H (A ++ [h]) E d := by
  have e := sans_in (A := A) he
  exact ⟨s.inv, s.bal, s.legs, by rw [e]; exact s.lv, by rw [e]; exact s.ex, s.more⟩
theorem St2.post {d1 : Led} {H A E : List (Key × List Leg)} {d d' : Led} {h : Key × List Leg} (s : St2 d1 H A E d) (he : h ∉ H) (hE : lk h.1 E = some h.2) (hn : lk h.1 d.live = none) (r : PostR d h.1 h.2 d') : St2 d1 H (A ++ [h]) E d' := by
  have e := sans_out (A := A) he
  obtain ⟨sv, hl⟩ := r.lns
  obtain ⟨ys, hy⟩ := s.more
  refine ⟨r.inv, bal_post s.inv s.bal hn r, r.legs, fun k => ?_, ?_, ⟨ys ++ [⟨h.1, sv, 0, h.2⟩], by rw [hl, hy, List.append_assoc]⟩⟩
  · rw [lv_post s.inv r, s.lv, e, List.map_append]
    by_cases q : k = h.1
    · rw [if_pos q, if_pos (by rw [q]; simp), q, hE]
    · rw [if_neg q]
      have : k ∈ List.map Prod.fst (sans A H) ++ List.map Prod.fst [h] ↔ k ∈ List.map Prod.fst (sans A H) := by
        rw [List.mem_append]
        simp [q]
      simp only [this]
  · rw [hl, e, List.map_append, List.map_append, s.ex, List.append_assoc]
    rfl
/-- The keys of a story's entries: one loan's, each once. -/
structure EK (loan : Int) (E : List (Key × List Leg)) : Prop where
  nd : (E.map Prod.fst).Nodup
  loan : ∀ e, e ∈ E → e.1.loan = loan
theorem lkE {E : List (Key × List Leg)} (h : (E.map Prod.fst).Nodup) {e : Key × List Leg} (he : e ∈ E) : lk e.1 E = some e.2 := lk_of_mem h (show (e.1, e.2) ∈ E from he)
section
variable {d0 d1 d : Led} {loan X Y : Int} {HS ES E A : List (Key × List Leg)}
theorem St1.sub (hI : Inv d0) (s : St1 d0 A E d) {e : Key × List Leg} (he : e ∈ allOf d) : e ∈ allOf d0 := by
  have h := (mem_allOf s.inv).1 (show (e.1, e.2) ∈ allOf d from he)
  rw [s.lv hI] at h
  split at h
  · cases h
  · exact (mem_allOf hI).2 h
theorem St1.lb (hI : Inv d0) (s : St1 d0 A E d) (hX : ∀ a, absE a (allOf d0) ≤ X) : LB d X :=
  ⟨s.bal, fun a => Int.le_trans (absE_sub a (nd_of_keys (all_nd s.inv)) fun e he => s.sub hI he) (hX a), s.legs⟩
theorem St2.lb (hI : Inv d0) (s1 : St1 d0 HS E d1) (s : St2 d1 HS A E d) (hX : ∀ a, absE a (allOf d0) ≤ X) (hY : ∀ a, absE a E ≤ Y) : LB d (X + Y) := by
  refine ⟨s.bal, fun a => ?_, s.legs⟩
  have h1 : absE a (allOf d) ≤ absE a (allOf d0 ++ E) := absE_sub a (nd_of_keys (all_nd s.inv)) fun e he => by
    have h := (mem_allOf s.inv).1 (show (e.1, e.2) ∈ allOf d from he)
    rw [s.lv] at h
    split at h
    · exact List.mem_append_right _ (lk_mem h)
    · exact List.mem_append_left _ (s1.sub hI ((mem_allOf s1.inv).2 h))
  rw [absE_app] at h1
  have := hX a
  have := hY a
  omega
/-- An entry that stands there, not looked at yet: it stands there still. -/
theorem st1_at (hI : Inv d0) (hH : HS.Perm (liveOf loan d0)) {B C : List (Key × List Leg)} {h : Key × List Leg} (hs : HS = B ++ h :: C) (s : St1 d0 B E d) : lv d h.1 = some h.2 := by
  have hnd : (HS.map Prod.fst).Nodup := ((hH.map Prod.fst).nodup_iff).2 (keys_nd hI)
  have hm : h ∈ liveOf loan d0 := hH.mem_iff.1 (by rw [hs]; simp)
  have hl := ((mem_liveOf hI).1 (show (h.1, h.2) ∈ liveOf loan d0 from hm)).2
  rw [s.lv hI, if_neg, hl]
  intro hk
  obtain ⟨z, hz, e⟩ := List.mem_map.1 hk
  have hz := (mem_sans.1 hz).1
  rw [hs, List.map_append, List.map_cons] at hnd
  have := (List.nodup_append.1 hnd).2.2 z.1 (List.mem_map_of_mem hz) h.1 List.mem_cons_self
  exact this e
/-- The story's entry that stands there: asx it is. -/
theorem st2_in (hI : Inv d0) (hH : HS.Perm (liveOf loan d0)) (hE : EK loan E) (s1 : St1 d0 HS E d1) {B C : List (Key × List Leg)} {e : Key × List Leg} (he : (B ++ e :: C).Perm E) (s : St2 d1 HS B E d) (hm : e ∈ HS) : lv d e.1 = some e.2 := by
  have hnd : (HS.map Prod.fst).Nodup := ((hH.map Prod.fst).nodup_iff).2 (keys_nd hI)
  have hne : ((B ++ e :: C).map Prod.fst).Nodup := ((he.map Prod.fst).nodup_iff).2 hE.nd
  have hl := ((mem_liveOf hI).1 (show (e.1, e.2) ∈ liveOf loan d0 from hH.mem_iff.1 hm)).2
  have heE : e ∈ E := he.mem_iff.1 (by simp)
  rw [s.lv, if_neg, s1.lv hI, if_neg, hl]
  · intro hk
    obtain ⟨z, hz, q⟩ := List.mem_map.1 hk
    obtain ⟨z1, z2⟩ := mem_sans.1 hz
    exact z2 (by rw [key_eq hnd z1 hm q]; exact heE)
  · intro hk
    obtain ⟨z, hz, q⟩ := List.mem_map.1 hk
    have hz := (mem_sans.1 hz).1
    rw [List.map_append, List.map_cons] at hne
    exact (List.nodup_append.1 hne).2.2 z.1 (List.mem_map_of_mem hz) e.1 List.mem_cons_self q
/-- The story's entry that doesn't stand there: no key of its own does. -/
theorem st2_out (hI : Inv d0) (hH : HS.Perm (liveOf loan d0)) (hE : EK loan E) (s1 : St1 d0 HS E d1) {B C : List (Key × List Leg)} {e : Key × List Leg} (he : (B ++ e :: C).Perm E) (s : St2 d1 HS B E d) (hm : e ∉ HS) : lv d e.1 = none := by
  have hne : ((B ++ e :: C).map Prod.fst).Nodup := ((he.map Prod.fst).nodup_iff).2 hE.nd
  have heE : e ∈ E := he.mem_iff.1 (by simp)
  rw [s.lv, if_neg, s1.lv hI]
  · split
    · rfl
    · rename_i hk
      cases hq : lv d0 e.1 with
      | none => rfl
      | some ls =>
        exfalso
        have hin : (e.1, ls) ∈ HS := hH.mem_iff.2 ((mem_liveOf hI).2 ⟨hE.loan e heE, hq⟩)
        by_cases hz : (e.1, ls) ∈ E
        · have q := key_eq hE.nd hz heE rfl
          exact hm (by rw [← q]; exact hin)
        · exact hk (List.mem_map.2 ⟨(e.1, ls), mem_sans.2 ⟨hin, hz⟩, rfl⟩)
  · intro hk
    obtain ⟨z, hz, q⟩ := List.mem_map.1 hk
    have hz := (mem_sans.1 hz).1
    rw [List.map_append, List.map_cons] at hne
    exact (List.nodup_append.1 hne).2.2 z.1 (List.mem_map_of_mem hz) e.1 List.mem_cons_self q
/-- By their keys. -/
def srtK (l : List (Key × List Leg)) : Prop := l.Pairwise fun a b => ¬ kLt b.1 a.1
/-- The ledger's live entries are the story's: the lines that came to it, in their order. -/
structure SyncR (d0 : Led) (loan : Int) (E : List (Key × List Leg)) (d : Led) : Prop where
  inv : Inv d
  bal : Bal d
  legs : Lgs d
  live : (liveOf loan d).Perm E
  other : ∀ k : Key, k.loan ≠ loan → lv d k = lv d0 k
  ex : ∃ HS ES, HS.Perm (liveOf loan d0) ∧ ES.Perm E ∧ srtK HS ∧ srtK ES ∧ d.lns.map stp = d0.lns.map stp ++ (sans HS E).map (rvL d0) ++ (sans ES HS).map poL
  more : ∃ ys, d.lns = d0.lns ++ ys
theorem SyncR.len (h : SyncR d0 loan E d) : d.lns.length = d0.lns.length + (sans (liveOf loan d0) E).length + (sans E (liveOf loan d0)).length := by
  obtain ⟨HS, ES, hH, hA, _, _, hx⟩ := h.ex
  have l1 : (sans HS E).length = (sans (liveOf loan d0) E).length := sans_len hH (List.Perm.refl _)
  have l2 : (sans ES HS).length = (sans E (liveOf loan d0)).length := sans_len hA hH
  have := congrArg List.length hx
  simp only [List.length_map, List.length_append] at this
  omega
theorem sync_end (hI : Inv d0) (hH : HS.Perm (liveOf loan d0)) (hE : EK loan E) (hA : ES.Perm E) (sH : srtK HS) (sE : srtK ES) (s1 : St1 d0 HS E d1) (s2 : St2 d1 HS ES E d) : SyncR d0 loan E d := by
  have hoth : ∀ k : Key, k.loan ≠ loan → lv d k = lv d0 k := fun k hk => by
    rw [s2.lv, if_neg, s1.lv hI, if_neg]
    · intro hm
      obtain ⟨z, hz, q⟩ := List.mem_map.1 hm
      have hz := (mem_sans.1 hz).1
      have := ((mem_liveOf hI).1 (show (z.1, z.2) ∈ liveOf loan d0 from hH.mem_iff.1 hz)).1
      exact hk (by rw [← q]; exact this)
    · intro hm
      obtain ⟨z, hz, q⟩ := List.mem_map.1 hm
      have hz := (mem_sans.1 hz).1
      exact hk (by rw [← q]; exact hE.loan z (hA.mem_iff.1 hz))
  have hin : ∀ k : Key, k.loan = loan → lv d k = lk k E := fun k hk => by
    rw [s2.lv]
    split
    · rfl
    · rename_i hno
      cases hq : lk k E with
      | some ls =>
        have hm := lk_mem hq
        have hmH : (k, ls) ∈ HS := by
          refine Classical.byContradiction fun hc => hno ?_
          exact List.mem_map.2 ⟨(k, ls), mem_sans.2 ⟨hA.mem_iff.2 hm, hc⟩, rfl⟩
        have hnd : (HS.map Prod.fst).Nodup := ((hH.map Prod.fst).nodup_iff).2 (keys_nd hI)
        rw [s1.lv hI, if_neg]
        · exact ((mem_liveOf hI).1 (hH.mem_iff.1 hmH)).2
        · intro hz
          obtain ⟨z, hz, q⟩ := List.mem_map.1 hz
          obtain ⟨z1, z2⟩ := mem_sans.1 hz
          exact z2 (by rw [key_eq hnd z1 hmH q]; exact hm)
      | none =>
        rw [s1.lv hI]
        split
        · rfl
        · rename_i hno2
          cases hq2 : lv d0 k with
          | none => rfl
          | some ls =>
            exfalso
            have hmH : (k, ls) ∈ HS := hH.mem_iff.2 ((mem_liveOf hI).2 ⟨hk, hq2⟩)
            by_cases hz : (k, ls) ∈ E
            · have := lkE hE.nd hz
              rw [hq] at this
              cases this
            · exact hno2 (List.mem_map.2 ⟨(k, ls), mem_sans.2 ⟨hmH, hz⟩, rfl⟩)
  refine ⟨s2.inv, s2.bal, s2.legs, ?_, hoth, ⟨HS, ES, hH, hA, sH, sE, by rw [s2.ex, s1.ex]⟩, ?_⟩
  · refine (List.perm_ext_iff_of_nodup (nd_of_keys (keys_nd s2.inv)) (nd_of_keys hE.nd)).2 fun e => ?_
    constructor
    · intro he
      obtain ⟨h1, h2⟩ := (mem_liveOf s2.inv).1 (show (e.1, e.2) ∈ liveOf loan d from he)
      rw [hin _ h1] at h2
      exact lk_mem h2
    · intro he
      refine (mem_liveOf s2.inv).2 ⟨hE.loan e he, ?_⟩
      rw [hin _ (hE.loan e he)]
      exact lkE hE.nd he
  · obtain ⟨y1, h1⟩ := s1.more
    obtain ⟨y2, h2⟩ := s2.more
    exact ⟨y1 ++ y2, by rw [h2, h1, List.append_assoc]⟩
/-- All live entries, behind it: those of other loans, and the story's. -/
theorem SyncR.all (hI : Inv d0) (hE : EK loan E) (h : SyncR d0 loan E d) : (allOf d).Perm (((allOf d0).filter fun e => decide (e.1.loan ≠ loan)) ++ E) := by
  have hn : (((allOf d0).filter fun e => decide (e.1.loan ≠ loan)) ++ E).Nodup := by
    refine List.nodup_append.2 ⟨(nd_of_keys (all_nd hI)).filter _, nd_of_keys hE.nd, fun a ha b hb q => ?_⟩
    have h1 := (List.mem_filter.1 ha).2
    rw [decide_eq_true_eq] at h1
    exact h1 (by rw [q]; exact hE.loan b hb)
  refine (List.perm_ext_iff_of_nodup (nd_of_keys (all_nd h.inv)) hn).2 fun e => ?_
  rw [List.mem_append, List.mem_filter, decide_eq_true_eq]
  by_cases q : e.1.loan = loan
  · have h1 := h.live.mem_iff (a := e)
    rw [liveOf_eq, List.mem_filter, decide_eq_true_eq] at h1
    constructor
    · exact fun he => .inr (h1.1 ⟨he, q⟩)
    · rintro (he | he)
      · exact absurd q he.2
      · exact (h1.2 he).1
  · have h1 : e ∈ allOf d ↔ e ∈ allOf d0 := by
      rw [show e = (e.1, e.2) from rfl, mem_allOf h.inv, mem_allOf hI, h.other _ q]
    constructor
    · exact fun he => .inl ⟨h1.1 he, q⟩
    · rintro (he | he)
      · exact h1.2 he.1
      · exact absurd (hE.loan e he) q
theorem SyncR.lb (hI : Inv d0) (hE : EK loan E) (h : SyncR d0 loan E d) (hX : ∀ a, absE a ((allOf d0).filter fun e => decide (e.1.loan ≠ loan)) ≤ X) (hY : ∀ a, absE a E ≤ Y) : LB d (X + Y) := by
  refine ⟨h.bal, fun a => ?_, h.legs⟩
  rw [absE_perm a (h.all hI hE), absE_app]
  have := hX a
  have := hY a
  omega
theorem absE_len : ∀ {E : List (Key × List Leg)}, (∀ e, e ∈ E → ∀ g, g ∈ e.2 → sml g.amt) → ∀ a, absE a E ≤ 30000000000000000 * (E.length : Int)
  | [], _, a => Int.le_refl 0
  | e :: r, h, a => by
    have h1 := amt_sml (h e List.mem_cons_self) a
    have h2 := absE_len (E := r) (fun x hx => h x (List.mem_cons_of_mem _ hx)) a
    have h3 := iabs_le (n := ofV a e.2) (m := 30000000000000000) (by have := h1.1; omega) h1.2
    show iabs (ofV a e.2) + absE a r ≤ 30000000000000000 * ((r.length + 1 : Nat) : Int)
    omega
end
end Go.Proofs.YtjlfjjgjghdokaaGreatDoor
set_option linter.unusedVariables false
namespace Go.Wk
/-- A call of a function value that has caught something. -/
theorem clo_rule {P : Program} {K : Value → World → Prop} {w : World} {B : Base} {S : List Asn} {F : List Fact} (H : Hp B S F w) {g : Nat} {args : List Value} (cap : List Value) {α : Type} {V : α → Value} {φ : α → Prop} {A : α → List Asn} {G : α → List Fact} {A0 : List Asn} {G0 : List Fact} {S' : List Asn} {R : α → List Asn} {N : α → List Fact}
    (h : ∀ M I, (A0 = [] → ∀ b, ¬ M b) → Hp ⟨w, M, I⟩ A0 G0 w → Ctr P g (args ++ cap) w M I V φ A G) [hp : Pick S A0 S'] [hs : SubF F G0] [hr : ∀ a, AppL (A a) S' (R a)] [hn : ∀ a, AppL (G a) F (N a)]
    (k : ∀ a w', φ a → Hp B (R a) (N a) w' → K (V a) w') : CallK P K w (.func (.func g) #[] cap.toArray) args := by
  obtain ⟨M, I, h0, hm, hk⟩ := (H.perm hp.perm).call (A := A0) (S := S') (G := G0) fun I ha => hs.all ha
  refine CallK_clo ((h M I hm h0).mono ?_)
  rintro v w' ⟨a, rfl, hφ, hh⟩
  refine k a w' hφ ?_
  rw [(hr a).eq, (hn a).eq]
  exact hk _ _ _ hh
end Go.Wk
namespace Go.Proofs.YtjlfjjgjghdokaaGreatDoor
open Go Go.Proofs Go.Wk
/-- An event; is it gone? -/
structure Pa where
  ev : Ev
  gone : Bool
def paC (x : Pa) : List Value := [.int .u32 x.ev.seq, .int .i32 x.ev.day, .int .u8 x.ev.kind, .int .i64 x.ev.amt, .bool x.gone]
@[reducible] def paV (x : Pa) : Value := .agg #[.int .u32 x.ev.seq, .int .i32 x.ev.day, .int .u8 x.ev.kind, .int .i64 x.ev.amt, .bool x.gone]
@[reducible] def pasC (xs : List Pa) : List Value := flatL paC xs
theorem paC_len (x : Pa) : (paC x).length = 5 := rfl
theorem pas_get {ps : List Pa} {j : Nat} {x : Pa} (h : ps[j]? = some x) : ldV (tb 105) (pasC ps) (0 + j * 5) = some (paV x) := by
  obtain ⟨hj, _⟩ := List.getElem?_eq_some_iff.1 h
  show (bif Nat.ble (0 + j * 5 + 5) (pasC ps).length then some (Value.agg (((pasC ps).drop (0 + j * 5)).take 5).toArray) else none) = _
  have hl : (pasC ps).length = ps.length * 5 := flatL_len paC_len ps
  rw [Nat.zero_add, flatL_at paC_len h]
  have : Nat.ble (j * 5 + 5) (pasC ps).length = true := by rw [Nat.ble_eq, hl]; omega
  rw [this]
  rfl
/-- Where the event of a number is; below 0: nowhere. -/
def findI (q : Int) : List Pa → Nat → Int
  | [], _ => -1
  | p :: r, i => if p.ev.seq = q then (i : Int) else findI q r (i + 1)
theorem find1 (b : Nat) (q : Int) (x : Pa) (w : World) (M I : BS) (H : Hp ⟨w, M, I⟩ [blk b [.int .u32 q] 23] [] w) :
    Ctr Tryz.prog 111 [paV x, .pointer (some ⟨b, 0, none⟩)] w M I (fun _ : Unit => .bool (x.ev.seq == q)) (fun _ => True) (fun _ => [blk b [.int .u32 q] 23]) (fun _ => []) := by
  refine Exe.of_ev tok Tryz.call111 Tryz.func111 rfl rfl rfl ?_
  refine box_as H (paC x) rfl fun r w1 H1 => ?_
  refine load_rule tok H1 (v := .int .u32 x.ev.seq) rfl ?_
  refine load_rule tok H1 (v := .int .u32 q) rfl ?_
  exact Exists.intro () (And.intro rfl (And.intro trivial (Hp.keep H1)))
theorem map0 {α β : Type} (f : α → β) : Array.map f #[] = #[] := by simp
theorem map1 {α β : Type} (f : α → β) (x : α) : Array.map f #[x] = #[f x] := by simp
theorem idxP (A : Option Addr) (n c : Nat) (ps : List Pa) (hn : n = ps.length) (b : Nat) (q : Int) (fs cap : Array Value) (hfs : fs = #[]) (hcap : cap = #[.pointer (some ⟨b, 0, none⟩)]) (w : World) (M I : BS) (H : Hp ⟨w, M, I⟩ [row 105 5 (.slice A n c) n (pasC ps), blk b [.int .u32 q] 23] [] w) :
    Ctr Tryz.prog 110 [.slice A n c, .func (.func 111) fs cap] w M I (fun _ : Unit => .int .i64 (findI q ps 0)) (fun _ => True) (fun _ => [row 105 5 (.slice A n c) n (pasC ps), blk b [.int .u32 q] 23]) (fun _ => []) := by
  have hmx : n ≤ 9223372036854775807 := by
    obtain ⟨fa, hfa⟩ := Hp.own (A := row 105 5 (.slice A n c) n (pasC ps)) H
    obtain ⟨A', c', h⟩ := row_shape hfa
    exact Nat.le_trans h.2.1 h.2.2.1
  subst hcap hfs
  refine Exe.of_ev tok Tryz.call110 Tryz.func110 rfl rfl rfl ?_
  refine loop_rule tok (σ := Nat) 524080 (fun i => [(8, .int .i64 (i : Int))]) (fun i w' => i ≤ n ∧ findI q ps 0 = findI q (ps.drop i) i ∧ Hp ⟨w, M, I⟩ [row 105 5 (.slice A n c) n (pasC ps), blk b [.int .u32 q] 23] [] w') (fun i => n - i) 0 rfl rfl ⟨rfl, trivial⟩ ⟨Nat.zero_le _, rfl, H⟩ ?_
  intro i j w1 hW
  have hi := hW.1
  have hg := hW.2.1
  have H1 := hW.2.2
  refine brd (fun q2 => ?_) (fun q2 => ?_)
  · have hil : i < n := Int.ofNat_lt.1 q2
    have ew : IntKind.i64.wrap ((i : Int) + 1) = ((i + 1 : Nat) : Int) := w64 (by omega) (by omega)
    refine Exists.elim (show ∃ u, ps[i]? = some u from ⟨_, List.getElem?_eq_getElem (by omega)⟩) fun u hu => ?_
    have hd : ps.drop i = u :: ps.drop (i + 1) := by
      rw [List.drop_eq_getElem_cons (by omega)]
      rw [List.getElem?_eq_getElem (by omega)] at hu
      rw [Option.some.inj hu]
    refine Exists.elim (row_at (A := A) (n := n) (c := c) H1 (by omega)) fun g hA => ?_
    refine idx_ownA tok hA rfl rfl (Int.natCast_nonneg i) q2 ?_
    refine row_ldA (A := A) (n := n) (c := c) tok H1 (paV u) hA (pas_get hu) ?_
    refine clo_rule H1 [.pointer (some ⟨b, 0, none⟩)] (fun M I _ h => find1 b q u _ M I h) fun _ w2 _ H2 => ?_
    refine br (fun q3 => ?_) (fun q3 => ?_)
    · have q3 : u.ev.seq = q := eq_of_beq q3
      refine Exists.intro () (And.intro (congrArg (Value.int .i64) ?_) (And.intro trivial (Hp.keep H2)))
      rw [hg, hd, findI, if_pos q3]
    · have q3 : u.ev.seq ≠ q := ne_of_beq_false q3
      refine Exists.intro (i + 1) (And.intro ⟨congrArg (Value.int .i64) ew, trivial⟩ (And.intro ?_ ⟨?_, ?_, Hp.keep H2⟩))
      · show n - (i + 1) < n - i
        omega
      · omega
      · rw [hg, hd, findI, if_neg q3]
  · refine Exists.intro () (And.intro (congrArg (Value.int .i64) ?_) (And.intro trivial (Hp.keep H1)))
    have q2 : ¬ (i : Int) < (n : Int) := q2
    rw [hg, List.drop_eq_nil_of_le (by omega)]
    rfl
/-! What an event may be. -/
def evRB (e : Ev) : Bool := if e.kind = 4 ∨ e.kind = 5 ∨ e.kind = 6 then dayB e.day && (decide (1 ≤ e.amt) && coinB e.amt) else if e.kind = 7 then dayB e.day && (e.amt == 0) else false
theorem evRight (e : Ev) : CB 57 [evV e] (.bool (evRB e)) := by
  intro w M I H
  refine Exe.of_ev tok Tryz.call57 Tryz.func57 rfl rfl rfl ?_
  refine box_as H (evC e) rfl fun r w1 H1 => ?_
  refine load_rule tok H1 (v := .int .u8 e.kind) rfl ?_
  have h456 : ∀ (hk : e.kind = 4 ∨ e.kind = 5 ∨ e.kind = 6), evRB e = (dayB e.day && (decide (1 ≤ e.amt) && coinB e.amt)) := fun hk => by unfold evRB; rw [if_pos hk]
  have h7 : e.kind = 7 → evRB e = (dayB e.day && (e.amt == 0)) := fun hk => by unfold evRB; rw [if_neg (by omega), if_pos hk]
  refine br (fun q4 => ?_) (fun q4 => ?_)
  · refine br (fun _ => ?_) (fun q => absurd (q4.symm.trans q) (by decide))
    have hh := h456 (Or.inl (eq_of_beq q4))
    refine load_rule tok H1 (v := .int .i32 e.day) rfl ?_
    refine call_rule H1 (fun M I _ h => dayRight e.day _ M I h) fun _ w2 _ H2 => ?_
    refine br (fun d1 => ?_) (fun d1 => ?_)
    · refine load_rule tok H2 (v := .int .i64 e.amt) rfl ?_
      refine brd (fun d2 => ?_) (fun d2 => ?_)
      · refine load_rule tok H2 (v := .int .i64 e.amt) rfl ?_
        refine call_rule H2 (fun M I _ h => coinRight e.amt _ M I h) fun _ w3 _ H3 => ?_
        refine Exists.intro () (And.intro (congrArg Value.bool ?_) (And.intro trivial (Hp.keep H3)))
        rw [hh, d1, decide_eq_true d2]
        rfl
      · refine Exists.intro () (And.intro (congrArg Value.bool ?_) (And.intro trivial (Hp.keep H2)))
        rw [hh, d1, decide_eq_false d2]
        rfl
    · refine Exists.intro () (And.intro (congrArg Value.bool ?_) (And.intro trivial (Hp.keep H2)))
      rw [hh, d1]
      rfl
  · refine br (fun q5 => ?_) (fun q5 => ?_)
    · refine br (fun _ => ?_) (fun q => absurd (q5.symm.trans q) (by decide))
      have hh := h456 (Or.inr (Or.inl (eq_of_beq q5)))
      refine load_rule tok H1 (v := .int .i32 e.day) rfl ?_
      refine call_rule H1 (fun M I _ h => dayRight e.day _ M I h) fun _ w2 _ H2 => ?_
      refine br (fun d1 => ?_) (fun d1 => ?_)
      · refine load_rule tok H2 (v := .int .i64 e.amt) rfl ?_
        refine brd (fun d2 => ?_) (fun d2 => ?_)
        · refine load_rule tok H2 (v := .int .i64 e.amt) rfl ?_
          refine call_rule H2 (fun M I _ h => coinRight e.amt _ M I h) fun _ w3 _ H3 => ?_
          refine Exists.intro () (And.intro (congrArg Value.bool ?_) (And.intro trivial (Hp.keep H3)))
          rw [hh, d1, decide_eq_true d2]
          rfl
        · refine Exists.intro () (And.intro (congrArg Value.bool ?_) (And.intro trivial (Hp.keep H2)))
          rw [hh, d1, decide_eq_false d2]
          rfl
      · refine Exists.intro () (And.intro (congrArg Value.bool ?_) (And.intro trivial (Hp.keep H2)))
        rw [hh, d1]
        rfl
    · refine br (fun q6 => ?_) (fun q6 => ?_)
      · have hh := h456 (Or.inr (Or.inr (eq_of_beq q6)))
        refine load_rule tok H1 (v := .int .i32 e.day) rfl ?_
        refine call_rule H1 (fun M I _ h => dayRight e.day _ M I h) fun _ w2 _ H2 => ?_
        refine br (fun d1 => ?_) (fun d1 => ?_)
        · refine load_rule tok H2 (v := .int .i64 e.amt) rfl ?_
          refine brd (fun d2 => ?_) (fun d2 => ?_)
          · refine load_rule tok H2 (v := .int .i64 e.amt) rfl ?_
            refine call_rule H2 (fun M I _ h => coinRight e.amt _ M I h) fun _ w3 _ H3 => ?_
            refine Exists.intro () (And.intro (congrArg Value.bool ?_) (And.intro trivial (Hp.keep H3)))
            rw [hh, d1, decide_eq_true d2]
            rfl
          · refine Exists.intro () (And.intro (congrArg Value.bool ?_) (And.intro trivial (Hp.keep H2)))
            rw [hh, d1, decide_eq_false d2]
            rfl
        · refine Exists.intro () (And.intro (congrArg Value.bool ?_) (And.intro trivial (Hp.keep H2)))
          rw [hh, d1]
          rfl
      · refine br (fun q7 => ?_) (fun q7 => ?_)
        · have hh := h7 (eq_of_beq q7)
          refine load_rule tok H1 (v := .int .i32 e.day) rfl ?_
          refine call_rule H1 (fun M I _ h => dayRight e.day _ M I h) fun _ w2 _ H2 => ?_
          refine br (fun d1 => ?_) (fun d1 => ?_)
          · refine load_rule tok H2 (v := .int .i64 e.amt) rfl ?_
            refine Exists.intro () (And.intro (congrArg Value.bool ?_) (And.intro trivial (Hp.keep H2)))
            rw [hh, d1]
            rfl
          · refine Exists.intro () (And.intro (congrArg Value.bool ?_) (And.intro trivial (Hp.keep H2)))
            rw [hh, d1]
            rfl
        · refine Exists.intro () (And.intro (congrArg Value.bool ?_) (And.intro trivial (Hp.keep H1)))
          have n4 := ne_of_beq_false q4
          have n5 := ne_of_beq_false q5
          have n6 := ne_of_beq_false q6
          have n7 := ne_of_beq_false q7
          have hh : evRB e = false := by unfold evRB; rw [if_neg (by omega), if_neg n7]
          rw [hh]
end Go.Proofs.YtjlfjjgjghdokaaGreatDoor
set_option linter.unusedVariables false
namespace Go.Wk
theorem Hp.nilFr {w : World} {B : Base} {S : List Asn} {F : List Fact} (H : Hp B S F w) (N e sz : Nat) : Hp B (Fr N (row e sz (.slice none 0 0) 0 []) :: S) F w := (H.nil e sz).head fun fp hf => ⟨hf, fun b hb => by
  have e := (hf.2 b).1 hb
  cases e⟩
end Go.Wk
namespace Go.Proofs.YtjlfjjgjghdokaaGreatDoor
open Go Go.Proofs Go.Wk
theorem frEvs {w : World} {B : Base} {S S' : List Asn} {F : List Fact} (H : Hp B S F w) {N : Nat} {v : Value} {e n : Nat} (ls : List Ev) (hM : B.w.heap.size ≤ N) [h1 : TakeF S N v e 4 n (evsC ls) S'] : Hp B S' (Sl evR v ls :: F) w := by
  have H2 := (H.addCl evR (cs := evsC ls) (xs := ls) (evsC_len ls) (fun i x hx => ⟨(), trivial, evs_at hx, rfl⟩)).frzRowFr (v := v) (xs := ls) evR hM rfl (by decide)
  refine H2.facts fun I ha f hf => ha f ?_
  rcases List.mem_cons.1 hf with rfl | hf
  · exact List.mem_cons_self
  · exact List.mem_cons_of_mem _ (List.mem_cons_of_mem _ hf)
/-- A loan. -/
structure Lo where
  sb : Nat
  S : Sto
  dv : SV
  ps : List Pa
  pv : SV
  thr : Int
  x : St
  h : Hd
@[reducible] def loC (o : Lo) : List Value := [.int .u32 o.S.loan, .pointer (some ⟨o.sb, 0, none⟩), .slice o.pv.A o.pv.n o.pv.c, .int .i32 o.thr, .int .i64 o.x.fees, .int .i64 o.x.int, .int .i64 o.x.prin, .int .u64 o.x.carry, .int .i64 o.x.paid, .int .i64 o.x.susp, .int .i64 o.x.recv, .int .i64 o.x.cash, .int .u8 o.x.status, .slice o.h.A o.h.es.length o.h.c]
@[reducible] def loA (p : Nat) (o : Lo) : List Asn := [blk p (loC o) 141, row 105 5 (.slice o.pv.A o.pv.n o.pv.c) o.pv.n (pasC o.ps), blk o.sb (stoC o.S o.dv) 120, row 71 5 (.slice o.h.A o.h.es.length o.h.c) o.h.es.length (ensC o.h.es)]
@[reducible] def loF (o : Lo) : List Fact := [Sl dueR (.slice o.dv.A o.dv.n o.dv.c) o.S.dues, EnF o.h.es]
/-- What isn't gone. -/
def liveL : List Pa → List Ev
  | [] => []
  | p :: r => if p.gone then liveL r else p.ev :: liveL r
theorem liveL_snoc (ps : List Pa) (x : Pa) : liveL (ps ++ [x]) = if x.gone then liveL ps else liveL ps ++ [x.ev] := by
  induction ps with
  | nil => cases h : x.gone <;> simp [liveL, h]
  | cons p r ih =>
    show (if p.gone then liveL (r ++ [x]) else p.ev :: liveL (r ++ [x])) = _
    rw [ih]
    cases h : x.gone <;> cases h2 : p.gone <;> simp [liveL, h2]
theorem liveL_len : ∀ ps : List Pa, (liveL ps).length ≤ ps.length
  | [] => Nat.le_refl _
  | p :: r => by
    have := liveL_len r
    unfold liveL
    split
    · rw [List.length_cons]; omega
    · rw [List.length_cons, List.length_cons]; omega
theorem liveL_mem : ∀ {ps : List Pa} {e : Ev}, e ∈ liveL ps → ∃ p, p ∈ ps ∧ p.ev = e ∧ p.gone = false
  | p :: r, e, h => by
    unfold liveL at h
    cases hg : p.gone with
    | true =>
      rw [hg, if_pos rfl] at h
      obtain ⟨q, h1, h2⟩ := liveL_mem h
      exact ⟨q, List.mem_cons_of_mem _ h1, h2⟩
    | false =>
      rw [hg, if_neg (by decide)] at h
      rcases List.mem_cons.1 h with rfl | h
      · exact ⟨p, List.mem_cons_self, rfl, hg⟩
      · obtain ⟨q, h1, h2⟩ := liveL_mem h
        exact ⟨q, List.mem_cons_of_mem _ h1, h2⟩
theorem evsC_snoc (l : List Ev) (e : Ev) : evsC l ++ evC e = evsC (l ++ [e]) := by
  induction l with
  | nil => rfl
  | cons a r ih => simp only [evsC, List.cons_append, ih]
/-- What a story tells of events through a day. -/
def told (S : Sto) (thr : Int) (ps : List Pa) (x : St) (E : List (Key × List Leg)) : Prop := ∃ l, l.Perm (liveL ps) ∧ evSrt l ∧ x = (tellF S (mn thr 3640000) l).x ∧ E = (tellF S (mn thr 3640000) l).E
structure LoOk (o : Lo) : Prop where
  sto : StoOk o.S
  pn : o.pv.n = o.ps.length
  ev : ∀ p, p ∈ o.ps → EvA p.ev
  few : o.ps.length ≤ 19
  thr : o.S.t.start - 1 ≤ o.thr ∧ o.thr ≤ o.S.t.start + 10000
  loan : inK .u32 o.S.loan
set_option maxHeartbeats 2000000 in
set_option maxRecDepth 20000 in
theorem ltell (p : Nat) (o : Lo) (ok : LoOk o) (w : World) (M I : BS) (H : Hp ⟨w, M, I⟩ (loA p o) [Sl dueR (.slice o.dv.A o.dv.n o.dv.c) o.S.dues] w) :
    Ctr Tryz.prog 55 [.pointer (some ⟨p, 0, none⟩)] w M I (fun _ : St × Hd => .tuple #[]) (fun a => told o.S o.thr o.ps a.1 (a.2.es.map kl)) (fun a => loA p { o with x := a.1, h := a.2 }) (fun a => [EnF a.2.es]) := by
  have hpn := ok.pn
  have hfew := ok.few
  have hthr := ok.thr
  have hst := ok.sto.ok.start
  refine Exe.of_ev tok Tryz.call55 Tryz.func55 rfl rfl rfl ?_
  have H1 : Hp ⟨w, M, I⟩ [Fr w.heap.size (row 65 4 (.slice none 0 0) 0 (evsC (liveL (o.ps.take 0)))), blk p (loC o) 141, row 105 5 (.slice o.pv.A o.pv.n o.pv.c) o.pv.n (pasC o.ps), blk o.sb (stoC o.S o.dv) 120] [Sl dueR (.slice o.dv.A o.dv.n o.dv.c) o.S.dues] w := by
    have e0 : evsC (liveL (o.ps.take 0)) = [] := by rw [List.take_zero]; rfl
    rw [e0]
    exact Hp.keep (Hp.nilFr H w.heap.size 65 4)
  refine load_rule tok H1 (v := .slice o.pv.A o.pv.n o.pv.c) rfl ?_
  refine loop_out tok (σ := Nat × SV) (τ := SV) 8387604 0 (fun s => [(2, .slice s.2.A s.2.n s.2.c), (10, .int .i64 (s.1 : Int))]) (fun s w' => s.1 ≤ o.pv.n ∧ s.2.n = (liveL (o.ps.take s.1)).length ∧ Hp ⟨w, M, I⟩ [Fr w.heap.size (row 65 4 (.slice s.2.A s.2.n s.2.c) s.2.n (evsC (liveL (o.ps.take s.1)))), blk p (loC o) 141, row 105 5 (.slice o.pv.A o.pv.n o.pv.c) o.pv.n (pasC o.ps), blk o.sb (stoC o.S o.dv) 120] [Sl dueR (.slice o.dv.A o.dv.n o.dv.c) o.S.dues] w') (fun s => o.pv.n - s.1) (0, ⟨none, 0, 0⟩)
    (fun t => [(2, .slice t.A t.n t.c)]) (fun t w' => t.n = (liveL o.ps).length ∧ Hp ⟨w, M, I⟩ [Fr w.heap.size (row 65 4 (.slice t.A t.n t.c) t.n (evsC (liveL o.ps))), blk p (loC o) 141, row 105 5 (.slice o.pv.A o.pv.n o.pv.c) o.pv.n (pasC o.ps), blk o.sb (stoC o.S o.dv) 120] [Sl dueR (.slice o.dv.A o.dv.n o.dv.c) o.S.dues] w') rfl rfl ⟨rfl, rfl, trivial⟩ ⟨Nat.zero_le _, rfl, H1⟩ ?_ ?_
  · intro s j w2 hW
    have hi := hW.1
    have hsn := hW.2.1
    have H2 := hW.2.2
    refine Exists.elim (show ∃ i, i = s.1 from ⟨_, rfl⟩) fun i ei => ?_
    rw [← ei] at hi hsn H2
    have hll := liveL_len (o.ps.take i)
    rw [List.length_take] at hll
    have ew : IntKind.i64.wrap ((s.1 : Int) + 1) = ((s.1 + 1 : Nat) : Int) := w64 (by omega) (by omega)
    refine brd (fun q2 => ?_) (fun q2 => ?_)
    · have hil : s.1 < o.pv.n := Int.ofNat_lt.1 q2
      rw [← ei] at hil
      refine Exists.elim (show ∃ u, o.ps[i]? = some u from ⟨_, List.getElem?_eq_getElem (by omega)⟩) fun u hu => ?_
      have ht : o.ps.take (i + 1) = o.ps.take i ++ [u] := by
        rw [List.getElem?_eq_getElem (by omega)] at hu
        rw [List.take_succ_eq_append_getElem (by omega), Option.some.inj hu]
      refine Exists.elim (row_at (A := o.pv.A) (n := o.pv.n) (c := o.pv.c) H2 (by omega)) fun g hA => ?_
      have i0 : (0 : Int) ≤ (s.1 : Int) := Int.natCast_nonneg _
      have hget : ldV (tb 105) (pasC o.ps) (0 + ((s.1 : Int)).toNat * 5) = some (paV u) := by rw [← ei]; exact pas_get hu
      refine idx_ownA tok hA rfl rfl i0 q2 ?_
      refine row_ldA (A := o.pv.A) (n := o.pv.n) (c := o.pv.c) tok H2 (paV u) hA hget ?_
      refine alloc_as tok H2 [.int .u32 0, .int .i32 0, .int .u8 0, .int .i64 0, .bool false] rfl rfl rfl fun y w3 H3 => ?_
      refine store_as tok H3 (paC u) rfl rfl rfl rfl rfl fun w4 H4 => ?_
      refine load_rule tok H4 (v := .bool u.gone) rfl ?_
      refine br (fun q3 => ?_) (fun q3 => ?_)
      · have q3 : u.gone = false := by
          have q3 : (!u.gone) = true := q3
          simpa using q3
        have el : liveL (o.ps.take (i + 1)) = liveL (o.ps.take i) ++ [u.ev] := by rw [ht, liveL_snoc, q3, if_neg (by decide)]
        refine load_rule tok H4 (v := evV u.ev) rfl ?_
        refine slice_as tok H4 (evC u.ev) rfl rfl rfl rfl rfl rfl fun g2 w5 H5 => ?_
        refine append_fr (v := .slice s.2.A s.2.n s.2.c) (b := g2) (m := 1) (c := 1) tok H5 rfl rfl rfl rfl rfl rfl rfl rfl (by show (s.2.n + 1) * 24 ≤ _; omega) (by omega) H5.size fun A2 c2 w6 H6 => ?_
        rw [evsC_snoc, ← el] at H6
        refine Exists.intro (s.1 + 1, ⟨A2, s.2.n + 1, c2⟩) (And.intro ⟨rfl, congrArg (Value.int .i64) ew, trivial⟩ (And.intro ?_ ⟨?_, ?_, ?_⟩))
        · show o.pv.n - (s.1 + 1) < o.pv.n - s.1
          omega
        · show s.1 + 1 ≤ o.pv.n
          omega
        · show s.2.n + 1 = (liveL (o.ps.take (s.1 + 1))).length
          rw [← ei, el, List.length_append, ← hsn]
          rfl
        · show Hp ⟨w, M, I⟩ [Fr w.heap.size (row 65 4 (.slice A2 (s.2.n + 1) c2) (s.2.n + 1) (evsC (liveL (o.ps.take (s.1 + 1))))), blk p (loC o) 141, row 105 5 (.slice o.pv.A o.pv.n o.pv.c) o.pv.n (pasC o.ps), blk o.sb (stoC o.S o.dv) 120] [Sl dueR (.slice o.dv.A o.dv.n o.dv.c) o.S.dues] w6
          rw [← ei]
          exact Hp.keep H6
      · have q3 : u.gone = true := by
          have q3 : (!u.gone) = false := q3
          simpa using q3
        have el : liveL (o.ps.take (i + 1)) = liveL (o.ps.take i) := by rw [ht, liveL_snoc, q3, if_pos rfl]
        rw [← el] at hsn H4
        refine Exists.intro (s.1 + 1, s.2) (And.intro ⟨rfl, congrArg (Value.int .i64) ew, trivial⟩ (And.intro ?_ ⟨?_, ?_, ?_⟩))
        · show o.pv.n - (s.1 + 1) < o.pv.n - s.1
          omega
        · show s.1 + 1 ≤ o.pv.n
          omega
        · show s.2.n = (liveL (o.ps.take (s.1 + 1))).length
          rw [← ei]
          exact hsn
        · show Hp ⟨w, M, I⟩ [Fr w.heap.size (row 65 4 (.slice s.2.A s.2.n s.2.c) s.2.n (evsC (liveL (o.ps.take (s.1 + 1))))), blk p (loC o) 141, row 105 5 (.slice o.pv.A o.pv.n o.pv.c) o.pv.n (pasC o.ps), blk o.sb (stoC o.S o.dv) 120] [Sl dueR (.slice o.dv.A o.dv.n o.dv.c) o.S.dues] w4
          rw [← ei]
          exact Hp.keep H4
    · have hie : i = o.ps.length := by
        have q2 : ¬ (s.1 : Int) < (o.pv.n : Int) := q2
        omega
      have hall : o.ps.take i = o.ps := by rw [hie]; exact List.take_length
      rw [hall] at hsn H2
      exact Exists.intro s.2 (And.intro ⟨rfl, trivial⟩ ⟨hsn, H2⟩)
  intro t j w2 hW
  have htn := hW.1
  have H2 := hW.2
  have H3 : Hp ⟨w, M, I⟩ [blk p (loC o) 141, blk o.sb (stoC o.S o.dv) 120, row 105 5 (.slice o.pv.A o.pv.n o.pv.c) o.pv.n (pasC o.ps)] [Sl evR (.slice t.A t.n t.c) (liveL o.ps), Sl dueR (.slice o.dv.A o.dv.n o.dv.c) o.S.dues] w2 := Hp.keep (frEvs (N := w.heap.size) (v := .slice t.A t.n t.c) H2 (liveL o.ps) (Nat.le_refl _))
  have hlv := liveL_len o.ps
  have ham : ∀ e, e ∈ liveL o.ps → EvA e := fun e he => by
    obtain ⟨q, h1, h2, _⟩ := liveL_mem he
    rw [← h2]
    exact ok.ev q h1
  refine draw_rule (A := [blk p (loC o) 141, blk o.sb (stoC o.S o.dv) 120]) tok tdr H3 [2, 3, 4, 5, 6, 7, 8, 9, 10, 11, 0, 12, 13, 15, 16, 17, 1, 14, 18, 19, 20] [0, 0, 0, 4, 12, 28, 0, 0, 128, 384, 896, 2044, 4092, 8188, 8188, 16381, 49149, 114685, 262143, 524287, 1048575] rfl ?_
  refine pass_last _ rfl (fun X w h => load_rule tok h (v := .pointer (some ⟨o.sb, 0, none⟩)) rfl ⟨rfl, rfl⟩) ?_
  refine pass_last _ rfl (fun X w h => load_rule tok h (v := .int .i32 o.thr) rfl ⟨rfl, rfl⟩) ?_
  refine imp_rule (fun X wx hw => call_rule hw (fun M I _ h => tell o.sb o.S ok.sto o.dv t.A t.n t.c (liveL o.ps) (by omega) ham o.thr hthr.2 (by omega) _ M I h) fun a w3 ha H4 => imp_done H4 ?_)
  refine imp_rule (fun X wx hw => store_as tok hw (loC { o with x := a.1 }) rfl rfl rfl rfl rfl fun w4 H5 => imp_done H5 ?_)
  refine imp_rule (fun X wx hw => store_as tok hw (loC { o with x := a.1, h := a.2 }) rfl rfl rfl rfl rfl fun w4 H5 => imp_done H5 ?_)
  refine done_rule fun w5 H6 => ?_
  exact Exists.intro a (And.intro rfl (And.intro ha (Hp.keep H6)))
end Go.Proofs.YtjlfjjgjghdokaaGreatDoor
set_option linter.unusedVariables false
namespace Go.Proofs.YtjlfjjgjghdokaaGreatDoor
open Go Go.Proofs Go.Wk
structure NewLo (id : Int) (t : Tm) (hs : List Int) (o : Lo) : Prop where
  loan : o.S.loan = id
  tm : o.S.t = t
  dues : DuesR t hs t.months.toNat o.S.dues
  ps : o.ps = []
  thr : o.thr = t.start - 1
  ok : LoOk o
  told : told o.S o.thr o.ps o.x (o.h.es.map kl)
set_option maxRecDepth 20000 in
theorem loanNew (id : Int) (hid : inK .u32 id) (t : Tm) (hin : TmIn t) (A : Option Addr) (n c : Nat) (hs : List Int) (ht : tmB t = true) (hh : holyB hs = true) (w : World) (M I : BS) (hM : ∀ b, ¬ M b) (H : Hp ⟨w, M, I⟩ [] [Sl dayR (.slice A n c) hs] w) :
    Ctr Tryz.prog 27 [.int .u32 id, tmV t, .slice A n c] w M I (fun a : Nat × Lo => .tuple #[.pointer (some ⟨a.1, 0, none⟩), .nilIface]) (fun a => NewLo id t hs a.2) (fun a => loA a.1 a.2) (fun a => [EnF a.2.h.es, Sl dueR (.slice a.2.dv.A a.2.dv.n a.2.dv.c) a.2.S.dues]) := by
  have ok := tmB_iff.1 ht
  have hst := ok.start
  refine Exe.of_ev tok Tryz.call27 Tryz.func27 rfl rfl rfl ?_
  refine box_as H (tmC t) rfl fun b w1 H1 => ?_
  refine load_rule tok H1 (v := tmV t) rfl ?_
  refine call_rule H1 (fun M I h0 h => storyNew id t hin A n c hs ht hh _ M I (h0 rfl) h) fun a w2 ha H2 => ?_
  have hS := sto_ok (loan := id) hin ok ha
  have et : IntKind.i32.wrap (t.start - 1) = t.start - 1 := i32w (by omega) (by omega)
  refine Exists.elim (show ∃ o : Lo, o = ⟨a.1, ⟨id, t, a.2.2⟩, a.2.1, [], ⟨none, 0, 0⟩, t.start - 1, st0, ⟨none, 0, []⟩⟩ from ⟨_, rfl⟩) fun o eo => ?_
  have hok : LoOk o := by
    rw [eo]
    exact ⟨hS, rfl, fun p hp => (by cases hp), by show 0 ≤ 19; decide, ⟨by show t.start - 1 ≤ t.start - 1; omega, by show t.start - 1 ≤ t.start + 10000; omega⟩, hid⟩
  refine load_rule tok H2 (v := .int .i32 t.start) rfl ?_
  refine box_as H2 [.int .u32 id, .pointer (some ⟨a.1, 0, none⟩), .slice none 0 0, .int .i32 (IntKind.i32.wrap (t.start - 1)), .int .i64 0, .int .i64 0, .int .i64 0, .int .u64 0, .int .i64 0, .int .i64 0, .int .i64 0, .int .i64 0, .int .u8 0, .slice none 0 0] rfl fun p w3 H3 => ?_
  rw [et] at H3
  have H4 : Hp ⟨w, M, I⟩ (loA p o) [Sl dueR (.slice o.dv.A o.dv.n o.dv.c) o.S.dues] w3 := by
    rw [eo]
    show Hp ⟨w, M, I⟩ [blk p [.int .u32 id, .pointer (some ⟨a.1, 0, none⟩), .slice none 0 0, .int .i32 (t.start - 1), .int .i64 0, .int .i64 0, .int .i64 0, .int .u64 0, .int .i64 0, .int .i64 0, .int .i64 0, .int .i64 0, .int .u8 0, .slice none 0 0] 141, row 105 5 (.slice none 0 0) 0 [], blk a.1 (stoC ⟨id, t, a.2.2⟩ a.2.1) 120, row 71 5 (.slice none 0 0) 0 []] [Sl dueR (.slice a.2.1.A a.2.1.n a.2.1.c) a.2.2] w3
    exact Hp.keep (Hp.nil (Hp.nil H3 105 5) 71 5)
  refine call_rule H4 (fun M I _ h => ltell p o hok _ M I h) fun b w4 hb H5 => ?_
  refine Exists.intro (p, { o with x := b.1, h := b.2 }) (And.intro rfl (And.intro ⟨?_, ?_, ?_, ?_, ?_, ?_, hb⟩ (Hp.keep H5)))
  · show o.S.loan = id
    rw [eo]
  · show o.S.t = t
    rw [eo]
  · show DuesR t hs t.months.toNat o.S.dues
    rw [eo]
    exact ha
  · show o.ps = []
    rw [eo]
  · show o.thr = t.start - 1
    rw [eo]
  · exact ⟨hok.sto, hok.pn, hok.ev, hok.few, hok.thr, hok.loan⟩
theorem loanRun (p : Nat) (o : Lo) (ok : LoOk o) (day : Int) (hd : day = o.thr + 1) (h1 : day ≤ o.S.t.start + 10000) (h2 : day ≤ 3640000) (w : World) (M I : BS) (H : Hp ⟨w, M, I⟩ (loA p o) [Sl dueR (.slice o.dv.A o.dv.n o.dv.c) o.S.dues] w) :
    Ctr Tryz.prog 28 [.pointer (some ⟨p, 0, none⟩), .int .i32 day] w M I (fun _ : St × Hd => .nilIface) (fun a => told o.S day o.ps a.1 (a.2.es.map kl)) (fun a => loA p { o with thr := day, x := a.1, h := a.2 }) (fun a => [EnF a.2.es]) := by
  have hst := ok.sto.ok.start
  have hthr := ok.thr
  have e1 : IntKind.i64.wrap day = day := i64w (by omega) (by omega)
  have e2 : IntKind.i64.wrap (IntKind.i64.wrap o.thr + 1) = day := by rw [i64w (n := o.thr) (by omega) (by omega), ← hd]; exact i64w (by omega) (by omega)
  have g1 : (!(IntKind.i64.wrap day == IntKind.i64.wrap (IntKind.i64.wrap o.thr + 1))) = false := by rw [e2, e1]; simp
  refine Exe.of_ev tok Tryz.call28 Tryz.func28 rfl rfl rfl ?_
  refine load_rule tok H (v := .int .i32 o.thr) rfl ?_
  refine br (fun q => absurd (g1.symm.trans q) (by decide)) (fun _ => ?_)
  refine brd (fun q => absurd h2 (Int.not_le.2 q)) (fun _ => ?_)
  refine store_as tok H (loC { o with thr := day }) rfl rfl rfl rfl rfl fun w1 H1 => ?_
  have H1 : Hp ⟨w, M, I⟩ (loA p { o with thr := day }) [Sl dueR (.slice o.dv.A o.dv.n o.dv.c) o.S.dues] w1 := Hp.keep H1
  refine call_rule H1 (fun M I _ h => ltell p { o with thr := day } ⟨ok.sto, ok.pn, ok.ev, ok.few, ⟨by show o.S.t.start - 1 ≤ day; omega, by show day ≤ o.S.t.start + 10000; omega⟩, ok.loan⟩ _ M I h) fun a w2 ha H2 => ?_
  exact Exists.intro a (And.intro rfl (And.intro ha (Hp.keep H2)))
theorem loanState (p : Nat) (o : Lo) (w : World) (M I : BS) (H : Hp ⟨w, M, I⟩ [blk p (loC o) 141] [] w) :
    Ctr Tryz.prog 32 [.pointer (some ⟨p, 0, none⟩)] w M I (fun _ : Unit => stV o.x) (fun _ => True) (fun _ => [blk p (loC o) 141]) (fun _ => []) := by
  refine Exe.of_ev tok Tryz.call32 Tryz.func32 rfl rfl rfl ?_
  refine alloc_as tok H (stC st0) rfl rfl rfl fun r w1 H1 => ?_
  refine load_rule tok H1 (v := stV o.x) rfl ?_
  refine store_as tok H1 (stC o.x) rfl rfl rfl rfl rfl fun w2 H2 => ?_
  exact Exists.intro ⟨r, 0, none⟩ (Exists.intro (stV o.x) (And.intro rfl (And.intro (Hp.ld (T := tb) tok H2 rfl) (Exists.intro () (And.intro rfl (And.intro trivial (Hp.keep H2)))))))
theorem storyTerms (sb : Nat) (S : Sto) (dv : SV) (w : World) (M I : BS) (H : Hp ⟨w, M, I⟩ [blk sb (stoC S dv) 120] [] w) :
    Ctr Tryz.prog 112 [.pointer (some ⟨sb, 0, none⟩)] w M I (fun _ : Unit => tmV S.t) (fun _ => True) (fun _ => [blk sb (stoC S dv) 120]) (fun _ => []) := by
  refine Exe.of_ev tok Tryz.call112 Tryz.func112 rfl rfl rfl ?_
  refine alloc_as tok H [.int .u8 0, .int .i64 0, .int .u32 0, .int .u8 0, .int .i64 0, .int .i32 0, .int .i64 0, .int .i64 0] rfl rfl rfl fun r w1 H1 => ?_
  refine load_rule tok H1 (v := tmV S.t) rfl ?_
  refine store_as tok H1 (tmC S.t) rfl rfl rfl rfl rfl fun w2 H2 => ?_
  exact Exists.intro ⟨r, 0, none⟩ (Exists.intro (tmV S.t) (And.intro rfl (And.intro (Hp.ld (T := tb) tok H2 rfl) (Exists.intro () (And.intro rfl (And.intro trivial (Hp.keep H2)))))))
theorem loanFind (p : Nat) (o : Lo) (hpn : o.pv.n = o.ps.length) (q : Int) (w : World) (M I : BS) (H : Hp ⟨w, M, I⟩ [blk p (loC o) 141, row 105 5 (.slice o.pv.A o.pv.n o.pv.c) o.pv.n (pasC o.ps)] [] w) :
    Ctr Tryz.prog 58 [.pointer (some ⟨p, 0, none⟩), .int .u32 q] w M I (fun _ : Unit => .int .i64 (findI q o.ps 0)) (fun _ => True) (fun _ => [blk p (loC o) 141, row 105 5 (.slice o.pv.A o.pv.n o.pv.c) o.pv.n (pasC o.ps)]) (fun _ => []) := by
  refine Exe.of_ev tok Tryz.call58 Tryz.func58 rfl rfl rfl ?_
  refine box_as H [.int .u32 q] rfl fun b w1 H1 => ?_
  refine load_rule tok H1 (v := .slice o.pv.A o.pv.n o.pv.c) rfl ?_
  refine call_rule H1 (fun M I _ h => idxP o.pv.A o.pv.n o.pv.c o.ps hpn b q _ _ (by exact map0 _) (by exact map1 _ _) _ M I h) fun _ w2 _ H2 => ?_
  exact Exists.intro () (And.intro rfl (And.intro trivial (Hp.keep H2)))
set_option maxRecDepth 20000 in
theorem loanFault (p : Nat) (o : Lo) (hl : inK .u32 o.S.loan) (cd : Int) (w : World) (M I : BS) (H : Hp ⟨w, M, I⟩ [blk p (loC o) 141] [] w) :
    Ctr Tryz.prog 56 [.pointer (some ⟨p, 0, none⟩), .iface 100 (.int .i64 cd)] w M I (fun f : Nat => errFV (.fault f o.S.loan cd)) (fun _ => True) (fun f => [errFA (.fault f o.S.loan cd), blk p (loC o) 141]) (fun _ => []) := by
  have hl0 : 0 ≤ o.S.loan ∧ o.S.loan ≤ 4294967295 := hl
  have e1 : IntKind.u64.wrap o.S.loan = o.S.loan := by
    simp [IntKind.wrap, IntKind.signed, IntKind.bits]
    omega
  refine Exe.of_ev tok Tryz.call56 Tryz.func56 rfl rfl rfl ?_
  refine load_rule tok H (v := .int .u32 o.S.loan) rfl ?_
  refine box_as H [.int .u64 (IntKind.u64.wrap o.S.loan), .iface 100 (.int .i64 cd)] rfl fun f w1 H1 => ?_
  rw [e1] at H1
  refine Exists.intro f (And.intro rfl (And.intro trivial ?_))
  show Hp ⟨w, M, I⟩ [blk f [.int .u64 o.S.loan, .iface 100 (.int .i64 cd)] 118, blk p (loC o) 141] [] w1
  exact Hp.keep H1
/-- May something happen on a day, today? -/
def opnB (o : Lo) (d today : Int) : Bool := decide (o.S.t.start ≤ d) && (decide (d ≤ today) && (decide (d ≤ o.thr + 1) && decide (today - d < 30)))
theorem loanOpen (p : Nat) (o : Lo) (ok : LoOk o) (d today : Int) (hd : -2147483648 ≤ d ∧ d ≤ 2147483647) (ht : -2147483648 ≤ today ∧ today ≤ 2147483647) (w : World) (M I : BS) (H : Hp ⟨w, M, I⟩ [blk p (loC o) 141, blk o.sb (stoC o.S o.dv) 120] [] w) :
    Ctr Tryz.prog 59 [.pointer (some ⟨p, 0, none⟩), .int .i32 d, .int .i32 today] w M I (fun _ : Unit => .bool (opnB o d today)) (fun _ => True) (fun _ => [blk p (loC o) 141, blk o.sb (stoC o.S o.dv) 120]) (fun _ => []) := by
  have hst := ok.sto.ok.start
  have hthr := ok.thr
  have e1 : IntKind.i32.wrap (o.thr + 1) = o.thr + 1 := i32w (by omega) (by omega)
  have e2 : IntKind.i64.wrap (IntKind.i64.wrap today - IntKind.i64.wrap d) = today - d := by rw [i64w (n := today) (by omega) (by omega), i64w (n := d) (by omega) (by omega)]; exact i64w (by omega) (by omega)
  refine Exe.of_ev tok Tryz.call59 Tryz.func59 rfl rfl rfl ?_
  refine load_rule tok H (v := .pointer (some ⟨o.sb, 0, none⟩)) rfl ?_
  refine call_rule H (fun M I _ h => storyTerms o.sb o.S o.dv _ M I h) fun _ w1 _ H1 => ?_
  refine brd (fun q1 => ?_) (fun q1 => ?_)
  · refine brd (fun q2 => ?_) (fun q2 => ?_)
    · refine load_rule tok H1 (v := .int .i32 o.thr) rfl ?_
      refine brd (fun q3 => ?_) (fun q3 => ?_)
      · refine Exists.intro () (And.intro (congrArg Value.bool ?_) (And.intro trivial (Hp.keep H1)))
        have q1 : o.S.t.start ≤ d := q1
        rw [e1] at q3
        show decide (IntKind.i64.wrap (IntKind.i64.wrap today - IntKind.i64.wrap d) < 30) = _
        unfold opnB
        rw [e2, decide_eq_true q1, decide_eq_true q2, decide_eq_true q3]
        rfl
      · refine Exists.intro () (And.intro (congrArg Value.bool ?_) (And.intro trivial (Hp.keep H1)))
        have q1 : o.S.t.start ≤ d := q1
        rw [e1] at q3
        unfold opnB
        rw [decide_eq_true q1, decide_eq_true q2, decide_eq_false q3]
        rfl
    · refine Exists.intro () (And.intro (congrArg Value.bool ?_) (And.intro trivial (Hp.keep H1)))
      have q1 : o.S.t.start ≤ d := q1
      unfold opnB
      rw [decide_eq_true q1, decide_eq_false q2]
      rfl
  · refine Exists.intro () (And.intro (congrArg Value.bool ?_) (And.intro trivial (Hp.keep H1)))
    have q1 : ¬ o.S.t.start ≤ d := q1
    unfold opnB
    rw [decide_eq_false q1]
    rfl
end Go.Proofs.YtjlfjjgjghdokaaGreatDoor
