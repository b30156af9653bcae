/- The plain law of a ledger: each act keeps it the document's. -/
import Derived.Test.YtfemfomgmopibaaGreatDoorB12
namespace Go.Proofs.YtfemfomgmopibaaGreatDoor
open Go Go.Proofs Go.Wk
theorem stp_app {xs ys : List Ln} {x y : Ln} (h : xs.map stp = ys.map stp) (hx : stp x = stp y) : (xs ++ [x]).map stp = (ys ++ [y]).map stp := by
  rw [List.map_append, List.map_append, h]
  simp only [List.map_cons, List.map_nil, hx]
theorem live_none {d : Led} (hI : Inv d) {k : Key} : (lk k d.live).isSome = true ↔ 0 ≤ liveGo k d.lns 0 (-1) := by
  rw [hI.live k]
  split <;> simp_all
theorem len_put_new {κ ν : Type} [DecidableEq κ] {k : κ} {v : ν} : ∀ {l : List (κ × ν)}, lk k l = none → (putL k v l).length = l.length + 1
  | [], _ => rfl
  | q :: l, h => by
    unfold lk at h
    split at h
    · cases h
    · rename_i hq
      unfold putL
      rw [if_neg hq, List.length_cons, List.length_cons, len_put_new h]
theorem len_del {κ ν : Type} [DecidableEq κ] {k : κ} {v : ν} : ∀ {l : List (κ × ν)}, lk k l = some v → (delL k l).length + 1 = l.length
  | [], h => by cases h
  | q :: l, h => by
    unfold lk at h
    unfold delL
    split at h
    · rename_i hq
      rw [if_pos hq, List.length_cons]
    · rename_i hq
      rw [if_neg hq, List.length_cons, List.length_cons, len_del h]
theorem del_sub {κ ν : Type} [DecidableEq κ] {k : κ} : ∀ {l : List (κ × ν)}, (delL k l).Sublist l
  | [] => List.Sublist.slnil
  | q :: l => by
    unfold delL
    split
    · exact List.sublist_cons_self _ _
    · exact del_sub.cons_cons _
theorem lk_del {κ ν : Type} [DecidableEq κ] {k p : κ} : ∀ {l : List (κ × ν)}, (l.map (·.1)).Nodup → lk p (delL k l) = if p = k then none else lk p l
  | [], _ => by simp [delL, lk]
  | q :: l, h => by
    simp only [List.map_cons, List.nodup_cons] at h
    unfold delL
    by_cases hq : q.1 = k
    · rw [if_pos hq]
      by_cases hp : p = k
      · rw [if_pos hp]
        refine lk_nokey ?_
        rw [hp, ← hq]; exact h.1
      · rw [if_neg hp]
        show _ = (if q.1 = p then some q.2 else lk p l)
        rw [if_neg (by rw [hq]; exact Ne.symm hp)]
    · rw [if_neg hq]
      show (if q.1 = p then some q.2 else lk p (delL k l)) = if p = k then none else (if q.1 = p then some q.2 else lk p l)
      rw [lk_del h.2]
      by_cases hp : p = k
      · rw [if_pos hp, if_pos hp, if_neg (by rw [hp]; exact hq)]
      · rw [if_neg hp, if_neg hp]
theorem get_app {xs : List Ln} {x y : Ln} {j : Nat} (h : xs[j]? = some y) : (xs ++ [x])[j]? = some y := by
  obtain ⟨hj, _⟩ := List.getElem?_eq_some_iff.1 h
  rw [List.getElem?_append_left hj]; exact h
theorem get_app_inv {xs : List Ln} {x y : Ln} {j : Nat} (h : (xs ++ [x])[j]? = some y) : xs[j]? = some y ∨ (j = xs.length ∧ y = x) := by
  rcases Nat.lt_or_ge j xs.length with hj | hj
  · rw [List.getElem?_append_left hj] at h
    exact .inl h
  · rw [List.getElem?_append_right hj] at h
    have hz : j - xs.length = 0 := by
      have := (List.getElem?_eq_some_iff.1 h).1
      simpa using this
    rw [hz] at h
    simp only [List.getElem?_cons_zero, Option.some.injEq] at h
    exact .inr ⟨by omega, h.symm⟩
/-- Behind an entry that is posted. -/
theorem inv_post {d : Led} (hI : Inv d) {k : Key} {sv : SV} {ls : List Leg} (hk : keyIn k) (hl : ∀ g, g ∈ ls → legIn g) (hr : rightB k ls = true) (hv : lk k d.live = none) {nx m : List (Pr × Int)} (hn : nextGo d.sums k.loan ls [] = some nx) (hm : ∀ p, lk p m = (lk p nx).or (lk p d.sums)) :
    Inv ⟨d.lns ++ [⟨k, sv, 0, ls⟩], putL k (d.lns.length : Int) d.live, m⟩ := by
  have hv' : liveGo k d.lns 0 (-1) < 0 := by
    have := live_none hI (k := k)
    rw [hv] at this
    simp at this
    omega
  obtain ⟨s1, s2, s3⟩ := add_sums hI (x := ⟨k, sv, 0, ls⟩) (rightB_rise hr) hn hm
  have hlv : ∀ q, liveGo q (d.lns ++ [⟨k, sv, 0, ls⟩]) 0 (-1) = if k = q then (d.lns.length : Int) else liveGo q d.lns 0 (-1) := fun q => by
    rw [liveGo_app, liveSt, if_pos rfl, Int.zero_add]
  refine ⟨fun x hx => ?_, nodup_put hI.nd, fun q => ?_, fun q hq => ?_, s1, s2, s3, fun j x hx ho => ?_, ?_⟩
  · rw [List.length_append]
    rcases List.mem_append.1 hx with hx | hx
    · obtain ⟨⟨h1, h2⟩, h3, h4, h5⟩ := hI.ok x hx
      exact ⟨⟨h1, by simp only [List.length_cons, List.length_nil]; omega⟩, h3, h4, h5⟩
    · rw [List.mem_singleton] at hx
      subst hx
      exact ⟨⟨Int.le_refl _, by simp only; omega⟩, hk, hr, hl⟩
  · rw [hlv]
    by_cases hq : k = q
    · subst hq
      rw [lk_put_eq, if_pos rfl, if_pos (by omega)]
    · rw [lk_put_ne (Ne.symm hq), if_neg hq]
      exact hI.live q
  · rw [hlv] at hq ⊢
    by_cases hkq : k = q
    · subst hkq
      rw [if_pos rfl]
      exact ⟨⟨k, sv, 0, ls⟩, by simp, rfl, rfl⟩
    · rw [if_neg hkq] at hq ⊢
      obtain ⟨x, h1, h2, h3⟩ := hI.at_ q hq
      exact ⟨x, get_app h1, h2, h3⟩
  · rcases get_app_inv hx with hx | ⟨rfl, rfl⟩
    · obtain ⟨h1, y, h2, h3⟩ := hI.back j x hx ho
      exact ⟨h1, y, get_app h2, h3⟩
    · exact absurd rfl ho
  · show (putL k (d.lns.length : Int) d.live).length + 2 * revs (d.lns ++ [Ln.mk k sv 0 ls]) = (d.lns ++ [Ln.mk k sv 0 ls]).length
    have := hI.cnt
    rw [len_put_new hv, revs_app, List.length_append]
    simp only [revs, List.length_cons, List.length_nil, if_true]
    omega
theorem negGo_turn : ∀ {ls : List Leg} {s last : Int}, inK .i64 s → (∀ x, x ∈ ls → inK .i64 x.amt) → rightGo s last ls = true → negGo (-s) ls = turnGo s ls
  | [], _, _, _, _, _ => rfl
  | x :: r, s, last, hs, ha, h => by
    obtain ⟨h1, _, h3⟩ := go_step h
    have h1' : -9223372036854775808 ≤ s + x.amt ∧ s + x.amt ≤ 9223372036854775807 := h1
    have ih := negGo_turn h1 (fun y hy => ha y (List.mem_cons_of_mem _ hy)) h3
    rw [negGo, turnGo, show -s + -x.amt = -(s + x.amt) by omega, ih]
    have e : in64 (-(s + x.amt)) = !decide (s + x.amt = -9223372036854775808) := by
      unfold in64
      by_cases hq : s + x.amt = -9223372036854775808
      · rw [decide_eq_true hq, decide_eq_false (show ¬ -(s + x.amt) ≤ 9223372036854775807 by omega), Bool.and_false]; rfl
      · rw [decide_eq_false hq, decide_eq_true (show -9223372036854775808 ≤ -(s + x.amt) by omega), decide_eq_true (show -(s + x.amt) ≤ 9223372036854775807 by omega)]; rfl
    rw [e]
theorem turnGo_ne : ∀ {ls : List Leg} {s : Int}, turnGo s ls = true → ∀ x, x ∈ ls → x.amt ≠ -9223372036854775808
  | [], _, _, x, h => by cases h
  | y :: r, s, h, x, hx => by
    intro e
    rw [turn_min hx e] at h
    cases h
/-- Behind a reversal. -/
theorem inv_rev {d : Led} (hI : Inv d) {k : Key} {i : Int} (hv : lk k d.live = some i) {x : Ln} (hx : d.lns[i.toNat]? = some x) (ht : turnGo 0 x.ls = true) {sv : SV} {nx m : List (Pr × Int)} (hn : nextGo d.sums x.k.loan (x.ls.map negL) [] = some nx) (hm : ∀ p, lk p m = (lk p nx).or (lk p d.sums)) :
    Inv ⟨d.lns ++ [⟨x.k, sv, i + 1, x.ls.map negL⟩], delL k d.live, m⟩ ∧ x.k = k := by
  have hi : i = liveGo k d.lns 0 (-1) ∧ 0 ≤ liveGo k d.lns 0 (-1) := by
    have h := hI.live k
    rw [hv] at h
    split at h
    · rename_i h0
      exact ⟨Option.some.inj h, h0⟩
    · cases h
  obtain ⟨rfl, hi0⟩ := hi
  obtain ⟨y, hy1, hy2, hy3⟩ := hI.at_ k hi0
  obtain rfl : y = x := Option.some.inj (hy1.symm.trans hx)
  have hil : (liveGo k d.lns 0 (-1)).toNat < d.lns.length := (List.getElem?_eq_some_iff.1 hx).1
  obtain ⟨_, ok2, ok3, ok4⟩ := hI.ok y (List.mem_of_getElem? hx)
  have hne := turnGo_ne ht
  have hrn : rightB y.k (y.ls.map negL) = true := by rw [rightB_neg (fun g hg => ⟨hne g hg, (ok4 g hg).2⟩) ok3]; exact ht
  refine ⟨?_, hy2⟩
  obtain ⟨s1, s2, s3⟩ := add_sums hI (x := ⟨y.k, sv, liveGo k d.lns 0 (-1) + 1, y.ls.map negL⟩) (rightB_rise hrn) hn hm
  have hlv : ∀ q, liveGo q (d.lns ++ [⟨y.k, sv, liveGo k d.lns 0 (-1) + 1, y.ls.map negL⟩]) 0 (-1) = if q = k then -1 else liveGo q d.lns 0 (-1) := fun q => by
    rw [liveGo_app, liveSt, if_neg (by simp only; omega)]
    have e : liveGo k d.lns 0 (-1) + 1 - 1 = liveGo k d.lns 0 (-1) := by omega
    simp only [e]
    by_cases hq : q = k
    · subst hq
      rw [if_pos rfl, if_pos rfl]
    · rw [if_neg hq, if_neg]
      intro e
      obtain ⟨z, hz1, hz2, _⟩ := hI.at_ q (by omega)
      rw [← e, hx] at hz1
      have := Option.some.inj hz1
      rw [← this, hy2] at hz2
      exact hq hz2.symm
  refine ⟨fun x hx => ?_, hI.nd.sublist (del_sub.map _), fun q => ?_, fun q hq => ?_, s1, s2, s3, fun j z hz ho => ?_, ?_⟩
  · rw [List.length_append]
    rcases List.mem_append.1 hx with hx | hx
    · obtain ⟨⟨h1, h2⟩, h3, h4, h5⟩ := hI.ok x hx
      exact ⟨⟨h1, by simp only [List.length_cons, List.length_nil]; omega⟩, h3, h4, h5⟩
    · rw [List.mem_singleton] at hx
      subst hx
      refine ⟨⟨by simp only; omega, by simp only [List.length_cons, List.length_nil]; omega⟩, ok2, hrn, fun g hg => ?_⟩
      obtain ⟨z, hz, rfl⟩ := List.mem_map.1 hg
      have h1 := (ok4 z hz).1
      have h2 : -9223372036854775808 ≤ z.amt ∧ z.amt ≤ 9223372036854775807 := (ok4 z hz).2
      have h3 := hne z hz
      exact ⟨h1, by show -9223372036854775808 ≤ -z.amt; omega, by show -z.amt ≤ 9223372036854775807; omega⟩
  · rw [hlv, lk_del hI.nd]
    by_cases hq : q = k
    · rw [if_pos hq, if_pos hq, if_neg (by omega)]
    · rw [if_neg hq, if_neg hq]
      exact hI.live q
  · rw [hlv] at hq ⊢
    by_cases hkq : q = k
    · rw [if_pos hkq] at hq
      omega
    · rw [if_neg hkq] at hq ⊢
      obtain ⟨x, h1, h2, h3⟩ := hI.at_ q hq
      exact ⟨x, get_app h1, h2, h3⟩
  · rcases get_app_inv hz with hz | ⟨rfl, rfl⟩
    · obtain ⟨h1, u, h2, h3⟩ := hI.back j z hz ho
      exact ⟨h1, u, get_app h2, h3⟩
    · refine ⟨by simp only; omega, y, ?_, hy3, rfl⟩
      simp only
      rw [show liveGo k d.lns 0 (-1) + 1 - 1 = liveGo k d.lns 0 (-1) by omega]
      exact get_app hx
  · show (delL k d.live).length + 2 * revs (d.lns ++ [Ln.mk y.k sv (liveGo k d.lns 0 (-1) + 1) (y.ls.map negL)]) = (d.lns ++ [Ln.mk y.k sv (liveGo k d.lns 0 (-1) + 1) (y.ls.map negL)]).length
    have h1 := hI.cnt
    have h2 := len_del hv
    rw [revs_app, List.length_append]
    simp only [revs, List.length_cons, List.length_nil]
    rw [if_neg (by omega)]
    omega
/-- What an act leaves: the law, and at most one line more, of a key. -/
structure After (d d' : Led) (k : Key) : Prop where
  inv : Inv d'
  more : ∃ ys, d'.lns = d.lns ++ ys ∧ ys.length ≤ 1 ∧ ∀ y, y ∈ ys → y.k = k
theorem post_after {s : SV} {d : Led} (hI : Inv d) (hs : s.n = d.lns.length) {k : Key} {ls : List Leg} (hk : keyIn k) (hl : ∀ g, g ∈ ls → legIn g) {a : AR} (ha : postOk s d k ls a) : After d a.d k ∧ a.s.n = a.d.lns.length := by
  unfold postOk at ha
  split at ha
  · subst ha; exact ⟨⟨hI, [], by simp⟩, hs⟩
  · rename_i h1
    split at ha
    · obtain ⟨p, rfl⟩ := ha; exact ⟨⟨hI, [], by simp⟩, hs⟩
    · rename_i h2
      split at ha
      · obtain ⟨p, rfl⟩ := ha; exact ⟨⟨hI, [], by simp⟩, hs⟩
      · rename_i nx hn
        obtain ⟨_, h3, h4, ⟨sv, h5⟩, h6⟩ := ha
        obtain ⟨e, s2, lns, lv, sums⟩ := a
        simp only at h3 h4 h5 h6
        subst h4 h5
        refine ⟨⟨inv_post hI hk hl (by simpa using h1) (by simpa using h2) hn h6, _, rfl, by simp, fun y hy => ?_⟩, by simp only [List.length_append, List.length_cons, List.length_nil]; omega⟩
        rw [List.mem_singleton] at hy
        rw [hy]
theorem rev_after {s : SV} {d : Led} (hI : Inv d) (hs : s.n = d.lns.length) {k : Key} {a : AR} (ha : revOk s d k a) : After d a.d k ∧ a.s.n = a.d.lns.length := by
  unfold revOk at ha
  split at ha
  · obtain ⟨p, rfl⟩ := ha; exact ⟨⟨hI, [], by simp⟩, hs⟩
  · rename_i i hv
    obtain ⟨x, hx, ha⟩ := ha
    split at ha
    · subst ha; exact ⟨⟨hI, [], by simp⟩, hs⟩
    · split at ha
      · subst ha; exact ⟨⟨hI, [], by simp⟩, hs⟩
      · rename_i ht
        split at ha
        · obtain ⟨p, rfl⟩ := ha; exact ⟨⟨hI, [], by simp⟩, hs⟩
        · rename_i nx hn
          obtain ⟨_, h3, h4, ⟨sv, h5⟩, h6⟩ := ha
          obtain ⟨e, s2, lns, lv, sums⟩ := a
          simp only at h3 h4 h5 h6
          subst h4 h5
          obtain ⟨q1, q2⟩ := inv_rev hI hv hx (by simpa using ht) (sv := sv) hn h6
          refine ⟨⟨q1, _, rfl, by simp, fun y hy => ?_⟩, by simp only [List.length_append, List.length_cons, List.length_nil]; omega⟩
          rw [List.mem_singleton] at hy
          rw [hy]; exact q2
theorem post_sim {s : SV} {d : Led} (hI : Inv d) {k : Key} {ls : List Leg} (hk : keyIn k) (hl : ∀ g, g ∈ ls → legIn g) {a : AR} (ha : postOk s d k ls a) {rs : SV} {xs : List Ln} (hrs : rs.n = xs.length) (hx : xs.map stp = d.lns.map stp) {sv : SV} {b : RR} (hb : postROk rs xs ⟨k, sv, 0, ls⟩ b) :
    codeOfF a.e = b.c ∧ b.s.n = b.xs.length ∧ b.xs.map stp = a.d.lns.map stp := by
  have hrr := rights k hk.2.2.1 ls fun x hx => (hl x hx).1
  have hlv := live_none hI (k := k)
  have hlg : liveGo k xs 0 (-1) = liveGo k d.lns 0 (-1) := liveGo_sim hx
  unfold postROk at hb
  simp only at hb
  unfold postOk at ha
  by_cases h1 : rightB k ls = false
  · rw [if_pos h1] at ha
    rw [if_pos (by rw [← hrr]; exact h1)] at hb
    subst ha hb
    exact ⟨rfl, hrs, hx⟩
  · rw [if_neg h1] at ha
    rw [if_neg (by rw [← hrr]; exact h1)] at hb
    by_cases h2 : (lk k d.live).isSome = true
    · rw [if_pos h2] at ha
      rw [hlg, if_pos (hlv.1 h2)] at hb
      obtain ⟨p, rfl⟩ := ha
      subst hb
      exact ⟨rfl, hrs, hx⟩
    · rw [if_neg h2] at ha
      rw [hlg, if_neg (fun h => h2 (hlv.2 h))] at hb
      have hch := chk_next hI (x := ⟨k, sv, 0, ls⟩) (rightB_rise (by simpa using h1))
      have hsm : addChk k.loan (xs ++ [⟨k, sv, 0, ls⟩]) ls = addChk k.loan (d.lns ++ [⟨k, sv, 0, ls⟩]) ls := addChk_sim (stp_app hx rfl)
      unfold addROk at hb
      simp only at hb hch
      rw [hsm, hch] at hb
      cases hn : nextGo d.sums k.loan ls [] with
      | none =>
        rw [hn] at ha hb
        obtain ⟨p, rfl⟩ := ha
        rw [if_neg (by simp)] at hb
        subst hb
        exact ⟨rfl, hrs, hx⟩
      | some nx =>
        rw [hn] at ha hb
        obtain ⟨h3, _, _, ⟨sv', h5⟩, _⟩ := ha
        rw [if_pos (show (some nx).isSome = true from rfl)] at hb
        obtain ⟨b1, b2, b3⟩ := hb
        rw [h3, b1, h5, b3, b2, List.length_append, hrs]
        exact ⟨rfl, rfl, stp_app hx rfl⟩
theorem rev_sim {s : SV} {d : Led} (hI : Inv d) {k : Key} {a : AR} (ha : revOk s d k a) {rs : SV} {xs : List Ln} (hrs : rs.n = xs.length) (hx : xs.map stp = d.lns.map stp) {b : RR} (hb : revROk rs xs k b) :
    codeOfF a.e = b.c ∧ b.s.n = b.xs.length ∧ b.xs.map stp = a.d.lns.map stp := by
  have hlg : liveGo k xs 0 (-1) = liveGo k d.lns 0 (-1) := liveGo_sim hx
  have hl := hI.live k
  unfold revROk at hb
  rw [hlg] at hb
  unfold revOk at ha
  by_cases h0 : 0 ≤ liveGo k d.lns 0 (-1)
  · rw [if_pos h0] at hl
    rw [hl] at ha
    obtain ⟨x, hx1, ha⟩ := ha
    rw [if_neg (by omega)] at hb
    obtain ⟨y, hy1, hb⟩ := hb
    have hst : stp y = stp x := by
      have h1 : (xs.map stp)[(liveGo k d.lns 0 (-1)).toNat]? = some (stp y) := by rw [List.getElem?_map, hy1]; rfl
      have h2 : (d.lns.map stp)[(liveGo k d.lns 0 (-1)).toNat]? = some (stp x) := by rw [List.getElem?_map, hx1]; rfl
      rw [hx] at h1
      exact Option.some.inj (h1.symm.trans h2)
    simp only [stp, Prod.mk.injEq] at hst
    obtain ⟨_, _, hls⟩ := hst
    rw [hls] at hb
    obtain ⟨z, hz1, hz2, _⟩ := hI.at_ k h0
    obtain rfl : z = x := Option.some.inj (hz1.symm.trans hx1)
    obtain ⟨_, ok2, ok3, ok4⟩ := hI.ok z (List.mem_of_getElem? hx1)
    rw [if_neg (by rw [ok3]; simp)] at ha
    have hng : negGo 0 z.ls = turnGo 0 z.ls := negGo_turn (s := 0) (last := 0) ⟨by show (-9223372036854775808 : Int) ≤ 0; omega, by show (0 : Int) ≤ 9223372036854775807; omega⟩ (fun g hg => (ok4 g hg).2) (rightB_go ok3)
    rw [hng] at hb
    by_cases ht : turnGo 0 z.ls = false
    · rw [if_pos ht] at ha hb
      subst ha hb
      exact ⟨rfl, hrs, hx⟩
    · rw [if_neg ht] at ha hb
      have ht' : turnGo 0 z.ls = true := by simpa using ht
      obtain ⟨sv, hb⟩ := hb
      have hne := turnGo_ne ht'
      have hrn : rightB z.k (z.ls.map negL) = true := by rw [rightB_neg (fun g hg => ⟨hne g hg, (ok4 g hg).2⟩) ok3]; exact ht'
      have hch := chk_next hI (x := ⟨k, sv, liveGo k d.lns 0 (-1) + 1, z.ls.map negL⟩) (rightB_rise hrn)
      have hsm : addChk k.loan (xs ++ [⟨k, sv, liveGo k d.lns 0 (-1) + 1, z.ls.map negL⟩]) (z.ls.map negL) = addChk k.loan (d.lns ++ [⟨k, sv, liveGo k d.lns 0 (-1) + 1, z.ls.map negL⟩]) (z.ls.map negL) := addChk_sim (stp_app hx rfl)
      unfold addROk at hb
      simp only at hb hch
      rw [hsm, hch] at hb
      rw [hz2] at ha
      cases hn : nextGo d.sums k.loan (z.ls.map negL) [] with
      | none =>
        rw [hn] at ha hb
        obtain ⟨p, rfl⟩ := ha
        rw [if_neg (by simp)] at hb
        subst hb
        exact ⟨rfl, hrs, hx⟩
      | some nx =>
        rw [hn] at ha hb
        obtain ⟨h3, _, _, ⟨sv', h5⟩, _⟩ := ha
        rw [if_pos (show (some nx).isSome = true from rfl)] at hb
        obtain ⟨b1, b2, b3⟩ := hb
        rw [h3, b1, h5, b3, b2, List.length_append, hrs]
        exact ⟨rfl, rfl, stp_app hx rfl⟩
  · rw [if_neg h0] at hl
    rw [hl] at ha
    rw [if_pos (by omega)] at hb
    obtain ⟨p, rfl⟩ := ha
    subst hb
    exact ⟨rfl, hrs, hx⟩
end Go.Proofs.YtfemfomgmopibaaGreatDoor
