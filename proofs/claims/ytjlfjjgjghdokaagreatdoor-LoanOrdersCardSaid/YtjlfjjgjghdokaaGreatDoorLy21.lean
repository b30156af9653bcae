/- The plain law of a ledger: each act keeps it the document's. -/
import Derived.Test.YtjlfjjgjghdokaaGreatDoorLy20
namespace Go.Proofs.YtjlfjjgjghdokaaGreatDoor
open Go Go.Proofs Go.Wk
theorem live_none {d : Led} (hI : Inv d) {k : Key} : (lk k d.live).isSome = true ↔ 0 ≤ liveGo k d.lns 0 (-1) := by
  rw [hI.live k]
  split <;> simp_all
theorem len_put_new {κ ν : Type} [DecidableEq κ] {k : κ} {v : ν} : ∀ {l : List (κ × ν)}, lk k l = none → (putL k v l).length = l.length + 1
  | [], _ => rfl
  | q :: l, h => by
    unfold lk at h
    split at h
    · cases h
    · rename_i hq
      unfold putL
      rw [if_neg hq, List.length_cons, List.length_cons, len_put_new h]
theorem len_del {κ ν : Type} [DecidableEq κ] {k : κ} {v : ν} : ∀ {l : List (κ × ν)}, lk k l = some v → (delL k l).length + 1 = l.length
  | [], h => by cases h
  | q :: l, h => by
    unfold lk at h
    unfold delL
    split at h
    · rename_i hq
      rw [if_pos hq, List.length_cons]
    · rename_i hq
      rw [if_neg hq, List.length_cons, List.length_cons, len_del h]
theorem del_sub {κ ν : Type} [DecidableEq κ] {k : κ} : ∀ {l : List (κ × ν)}, (delL k l).Sublist l
  | [] => List.Sublist.slnil
  | q :: l => by
    unfold delL
    split
    · exact List.sublist_cons_self _ _
    · exact del_sub.cons_cons _
theorem lk_del {κ ν : Type} [DecidableEq κ] {k p : κ} : ∀ {l : List (κ × ν)}, (l.map (·.1)).Nodup → lk p (delL k l) = if p = k then none else lk p l
  | [], _ => by simp [delL, lk]
  | q :: l, h => by
    simp only [List.map_cons, List.nodup_cons] at h
    unfold delL
    by_cases hq : q.1 = k
    · rw [if_pos hq]
      by_cases hp : p = k
      · rw [if_pos hp]
        refine lk_nokey ?_
        rw [hp, ← hq]; exact h.1
      · rw [if_neg hp]
        show _ = (if q.1 = p then some q.2 else lk p l)
        rw [if_neg (by rw [hq]; exact Ne.symm hp)]
    · rw [if_neg hq]
      show (if q.1 = p then some q.2 else lk p (delL k l)) = if p = k then none else (if q.1 = p then some q.2 else lk p l)
      rw [lk_del h.2]
      by_cases hp : p = k
      · rw [if_pos hp, if_pos hp, if_neg (by rw [hp]; exact hq)]
      · rw [if_neg hp, if_neg hp]
theorem get_app {xs : List Ln} {x y : Ln} {j : Nat} (h : xs[j]? = some y) : (xs ++ [x])[j]? = some y := by
  obtain ⟨hj, _⟩ := List.getElem?_eq_some_iff.1 h
  rw [List.getElem?_append_left hj]; exact h
theorem get_app_inv {xs : List Ln} {x y : Ln} {j : Nat} (h : (xs ++ [x])[j]? = some y) : xs[j]? = some y ∨ (j = xs.length ∧ y = x) := by
  rcases Nat.lt_or_ge j xs.length with hj | hj
  · rw [List.getElem?_append_left hj] at h
    exact .inl h
  · rw [List.getElem?_append_right hj] at h
    have hz : j - xs.length = 0 := by
      have := (List.getElem?_eq_some_iff.1 h).1
      simpa using this
    rw [hz] at h
    simp only [List.getElem?_cons_zero, Option.some.injEq] at h
    exact .inr ⟨by omega, h.symm⟩
/-- Behind an entry that is posted. -/
theorem inv_post {d : Led} (hI : Inv d) {k : Key} {sv : SV} {ls : List Leg} (hk : keyIn k) (hl : ∀ g, g ∈ ls → legIn g) (hr : rightB k ls = true) (hv : lk k d.live = none) {nx m : List (Pr × Int)} (hn : nextGo d.sums k.loan ls [] = some nx) (hm : ∀ p, lk p m = (lk p nx).or (lk p d.sums)) :
    Inv ⟨d.lns ++ [⟨k, sv, 0, ls⟩], putL k (d.lns.length : Int) d.live, m⟩ := by
  have hv' : liveGo k d.lns 0 (-1) < 0 := by
    have := live_none hI (k := k)
    rw [hv] at this
    simp at this
    omega
  obtain ⟨s1, s2, s3⟩ := add_sums hI (x := ⟨k, sv, 0, ls⟩) (rightB_rise hr) hn hm
  have hlv : ∀ q, liveGo q (d.lns ++ [⟨k, sv, 0, ls⟩]) 0 (-1) = if k = q then (d.lns.length : Int) else liveGo q d.lns 0 (-1) := fun q => by
    rw [liveGo_app, liveSt, if_pos rfl, Int.zero_add]
  refine ⟨fun x hx => ?_, nodup_put hI.nd, fun q => ?_, fun q hq => ?_, s1, s2, s3, fun j x hx ho => ?_, ?_⟩
  · rw [List.length_append]
    rcases List.mem_append.1 hx with hx | hx
    · obtain ⟨⟨h1, h2⟩, h3, h4, h5⟩ := hI.ok x hx
      exact ⟨⟨h1, by simp only [List.length_cons, List.length_nil]; omega⟩, h3, h4, h5⟩
    · rw [List.mem_singleton] at hx
      subst hx
      exact ⟨⟨Int.le_refl _, by simp only; omega⟩, hk, hr, hl⟩
  · rw [hlv]
    by_cases hq : k = q
    · subst hq
      rw [lk_put_eq, if_pos rfl, if_pos (by omega)]
    · rw [lk_put_ne (Ne.symm hq), if_neg hq]
      exact hI.live q
  · rw [hlv] at hq ⊢
    by_cases hkq : k = q
    · subst hkq
      rw [if_pos rfl]
      exact ⟨⟨k, sv, 0, ls⟩, by simp, rfl, rfl⟩
    · rw [if_neg hkq] at hq ⊢
      obtain ⟨x, h1, h2, h3⟩ := hI.at_ q hq
      exact ⟨x, get_app h1, h2, h3⟩
  · rcases get_app_inv hx with hx | ⟨rfl, rfl⟩
    · obtain ⟨h1, y, h2, h3⟩ := hI.back j x hx ho
      exact ⟨h1, y, get_app h2, h3⟩
    · exact absurd rfl ho
  · show (putL k (d.lns.length : Int) d.live).length + 2 * revs (d.lns ++ [Ln.mk k sv 0 ls]) = (d.lns ++ [Ln.mk k sv 0 ls]).length
    have := hI.cnt
    rw [len_put_new hv, revs_app, List.length_append]
    simp only [revs, List.length_cons, List.length_nil, if_true]
    omega
theorem turnGo_ne : ∀ {ls : List Leg} {s : Int}, turnGo s ls = true → ∀ x, x ∈ ls → x.amt ≠ -9223372036854775808
  | [], _, _, x, h => by cases h
  | y :: r, s, h, x, hx => by
    intro e
    rw [turn_min hx e] at h
    cases h
/-- Behind a reversal. -/
theorem inv_rev {d : Led} (hI : Inv d) {k : Key} {i : Int} (hv : lk k d.live = some i) {x : Ln} (hx : d.lns[i.toNat]? = some x) (ht : turnGo 0 x.ls = true) {sv : SV} {nx m : List (Pr × Int)} (hn : nextGo d.sums x.k.loan (x.ls.map negL) [] = some nx) (hm : ∀ p, lk p m = (lk p nx).or (lk p d.sums)) :
    Inv ⟨d.lns ++ [⟨x.k, sv, i + 1, x.ls.map negL⟩], delL k d.live, m⟩ ∧ x.k = k := by
  have hi : i = liveGo k d.lns 0 (-1) ∧ 0 ≤ liveGo k d.lns 0 (-1) := by
    have h := hI.live k
    rw [hv] at h
    split at h
    · rename_i h0
      exact ⟨Option.some.inj h, h0⟩
    · cases h
  obtain ⟨rfl, hi0⟩ := hi
  obtain ⟨y, hy1, hy2, hy3⟩ := hI.at_ k hi0
  obtain rfl : y = x := Option.some.inj (hy1.symm.trans hx)
  have hil : (liveGo k d.lns 0 (-1)).toNat < d.lns.length := (List.getElem?_eq_some_iff.1 hx).1
  obtain ⟨_, ok2, ok3, ok4⟩ := hI.ok y (List.mem_of_getElem? hx)
  have hne := turnGo_ne ht
  have hrn : rightB y.k (y.ls.map negL) = true := by rw [rightB_neg (fun g hg => ⟨hne g hg, (ok4 g hg).2⟩) ok3]; exact ht
  refine ⟨?_, hy2⟩
  obtain ⟨s1, s2, s3⟩ := add_sums hI (x := ⟨y.k, sv, liveGo k d.lns 0 (-1) + 1, y.ls.map negL⟩) (rightB_rise hrn) hn hm
  have hlv : ∀ q, liveGo q (d.lns ++ [⟨y.k, sv, liveGo k d.lns 0 (-1) + 1, y.ls.map negL⟩]) 0 (-1) = if q = k then -1 else liveGo q d.lns 0 (-1) := fun q => by
    rw [liveGo_app, liveSt, if_neg (by simp only; omega)]
    have e : liveGo k d.lns 0 (-1) + 1 - 1 = liveGo k d.lns 0 (-1) := by omega
    simp only [e]
    by_cases hq : q = k
    · subst hq
      rw [if_pos rfl, if_pos rfl]
    · rw [if_neg hq, if_neg]
      intro e
      obtain ⟨z, hz1, hz2, _⟩ := hI.at_ q (by omega)
      rw [← e, hx] at hz1
      have := Option.some.inj hz1
      rw [← this, hy2] at hz2
      exact hq hz2.symm
  refine ⟨fun x hx => ?_, hI.nd.sublist (del_sub.map _), fun q => ?_, fun q hq => ?_, s1, s2, s3, fun j z hz ho => ?_, ?_⟩
  · rw [List.length_append]
    rcases List.mem_append.1 hx with hx | hx
    · obtain ⟨⟨h1, h2⟩, h3, h4, h5⟩ := hI.ok x hx
      exact ⟨⟨h1, by simp only [List.length_cons, List.length_nil]; omega⟩, h3, h4, h5⟩
    · rw [List.mem_singleton] at hx
      subst hx
      refine ⟨⟨by simp only; omega, by simp only [List.length_cons, List.length_nil]; omega⟩, ok2, hrn, fun g hg => ?_⟩
      obtain ⟨z, hz, rfl⟩ := List.mem_map.1 hg
      have h1 := (ok4 z hz).1
      have h2 : -9223372036854775808 ≤ z.amt ∧ z.amt ≤ 9223372036854775807 := (ok4 z hz).2
      have h3 := hne z hz
      exact ⟨h1, by show -9223372036854775808 ≤ -z.amt; omega, by show -z.amt ≤ 9223372036854775807; omega⟩
  · rw [hlv, lk_del hI.nd]
    by_cases hq : q = k
    · rw [if_pos hq, if_pos hq, if_neg (by omega)]
    · rw [if_neg hq, if_neg hq]
      exact hI.live q
  · rw [hlv] at hq ⊢
    by_cases hkq : q = k
    · rw [if_pos hkq] at hq
      omega
    · rw [if_neg hkq] at hq ⊢
      obtain ⟨x, h1, h2, h3⟩ := hI.at_ q hq
      exact ⟨x, get_app h1, h2, h3⟩
  · rcases get_app_inv hz with hz | ⟨rfl, rfl⟩
    · obtain ⟨h1, u, h2, h3⟩ := hI.back j z hz ho
      exact ⟨h1, u, get_app h2, h3⟩
    · refine ⟨by simp only; omega, y, ?_, hy3, rfl⟩
      simp only
      rw [show liveGo k d.lns 0 (-1) + 1 - 1 = liveGo k d.lns 0 (-1) by omega]
      exact get_app hx
  · show (delL k d.live).length + 2 * revs (d.lns ++ [Ln.mk y.k sv (liveGo k d.lns 0 (-1) + 1) (y.ls.map negL)]) = (d.lns ++ [Ln.mk y.k sv (liveGo k d.lns 0 (-1) + 1) (y.ls.map negL)]).length
    have h1 := hI.cnt
    have h2 := len_del hv
    rw [revs_app, List.length_append]
    simp only [revs, List.length_cons, List.length_nil]
    rw [if_neg (by omega)]
    omega
/-- What an act leaves: the law, and at most one line more, of a key. -/
structure After (d d' : Led) (k : Key) : Prop where
  inv : Inv d'
  more : ∃ ys, d'.lns = d.lns ++ ys ∧ ys.length ≤ 1 ∧ ∀ y, y ∈ ys → y.k = k
theorem post_after {s : SV} {d : Led} (hI : Inv d) (hs : s.n = d.lns.length) {k : Key} {ls : List Leg} (hk : keyIn k) (hl : ∀ g, g ∈ ls → legIn g) {a : AR} (ha : postOk s d k ls a) : After d a.d k ∧ a.s.n = a.d.lns.length := by
  unfold postOk at ha
  split at ha
  · subst ha; exact ⟨⟨hI, [], by simp⟩, hs⟩
  · rename_i h1
    split at ha
    · obtain ⟨p, rfl⟩ := ha; exact ⟨⟨hI, [], by simp⟩, hs⟩
    · rename_i h2
      split at ha
      · obtain ⟨p, rfl⟩ := ha; exact ⟨⟨hI, [], by simp⟩, hs⟩
      · rename_i nx hn
        obtain ⟨_, h3, h4, ⟨sv, h5⟩, h6⟩ := ha
        obtain ⟨e, s2, lns, lv, sums⟩ := a
        simp only at h3 h4 h5 h6
        subst h4 h5
        refine ⟨⟨inv_post hI hk hl (by simpa using h1) (by simpa using h2) hn h6, _, rfl, by simp, fun y hy => ?_⟩, by simp only [List.length_append, List.length_cons, List.length_nil]; omega⟩
        rw [List.mem_singleton] at hy
        rw [hy]
theorem rev_after {s : SV} {d : Led} (hI : Inv d) (hs : s.n = d.lns.length) {k : Key} {a : AR} (ha : revOk s d k a) : After d a.d k ∧ a.s.n = a.d.lns.length := by
  unfold revOk at ha
  split at ha
  · obtain ⟨p, rfl⟩ := ha; exact ⟨⟨hI, [], by simp⟩, hs⟩
  · rename_i i hv
    obtain ⟨x, hx, ha⟩ := ha
    split at ha
    · subst ha; exact ⟨⟨hI, [], by simp⟩, hs⟩
    · split at ha
      · subst ha; exact ⟨⟨hI, [], by simp⟩, hs⟩
      · rename_i ht
        split at ha
        · obtain ⟨p, rfl⟩ := ha; exact ⟨⟨hI, [], by simp⟩, hs⟩
        · rename_i nx hn
          obtain ⟨_, h3, h4, ⟨sv, h5⟩, h6⟩ := ha
          obtain ⟨e, s2, lns, lv, sums⟩ := a
          simp only at h3 h4 h5 h6
          subst h4 h5
          obtain ⟨q1, q2⟩ := inv_rev hI hv hx (by simpa using ht) (sv := sv) hn h6
          refine ⟨⟨q1, _, rfl, by simp, fun y hy => ?_⟩, by simp only [List.length_append, List.length_cons, List.length_nil]; omega⟩
          rw [List.mem_singleton] at hy
          rw [hy]; exact q2
end Go.Proofs.YtjlfjjgjghdokaaGreatDoor
namespace Go.Proofs.YtjlfjjgjghdokaaGreatDoor
open Go Go.Proofs Go.Wk
theorem rev_pre {d : Led} (hI : Inv d) {k : Key} : ∀ i, lk k d.live = some i → 0 ≤ i ∧ ∃ x, d.lns[i.toNat]? = some x ∧ keyIn x.k ∧ x.ls.length ≤ 1000 := fun i hi => by
  have h := hI.live k
  rw [hi] at h
  split at h
  · rename_i h0
    obtain rfl := Option.some.inj h
    obtain ⟨x, h1, _, _⟩ := hI.at_ k h0
    obtain ⟨_, h3, h4, _⟩ := hI.ok x (List.mem_of_getElem? h1)
    have := (right_day h4).2.1
    exact ⟨h0, x, h1, h3, by omega⟩
  · cases h
def k0 : Key := ⟨1, 0, 1, 0⟩
def l0 : List Leg := [⟨1, -5⟩, ⟨2, 5⟩]
end Go.Proofs.YtjlfjjgjghdokaaGreatDoor
set_option linter.unusedVariables false
namespace Go.Proofs.YtjlfjjgjghdokaaGreatDoor
open Go Go.Proofs Go.Wk
def ledO (l : Nat) (d : Led) : Asn := packA (fun i : Nat × Nat × SV => i.2.2.n = d.lns.length) fun i => [blk l [.slice i.2.2.A i.2.2.n i.2.2.c, .map (some i.1), .map (some i.2.1)] 146, row 158 6 (.slice i.2.2.A i.2.2.n i.2.2.c) i.2.2.n (lnsC d.lns), mapO i.1 keyV iV d.live, mapO i.2.1 prV iV d.sums]
section
variable {B : Base} {S L : List Asn} {F : List Fact} {w : World} {l p : Nat} {d : Led} {xs : List Ln}
theorem ledOpen (H : Hp B L F w) [k : Take L (ledO l d) S] : ∃ (m1 m2 : Nat) (s : SV), s.n = d.lns.length ∧ Hp B (blk l [.slice s.A s.n s.c, .map (some m1), .map (some m2)] 146 :: row 158 6 (.slice s.A s.n s.c) s.n (lnsC d.lns) :: mapO m1 keyV iV d.live :: mapO m2 prV iV d.sums :: S) F w := by
  obtain ⟨⟨m1, m2, s⟩, hs, h⟩ := Hp.open_ (L := L) (S := S) (p := fun i : Nat × Nat × SV => i.2.2.n = d.lns.length) H (k := k)
  exact ⟨m1, m2, s, hs, h⟩
theorem ledClose {m1 m2 : Nat} {s : SV} (H : Hp B L F w) (hs : s.n = d.lns.length) [k : Pick L [blk l [.slice s.A s.n s.c, .map (some m1), .map (some m2)] 146, row 158 6 (.slice s.A s.n s.c) s.n (lnsC d.lns), mapO m1 keyV iV d.live, mapO m2 prV iV d.sums] S] : Hp B (ledO l d :: S) F w :=
  Hp.close (p := fun i : Nat × Nat × SV => i.2.2.n = d.lns.length) (m1, m2, s) hs H (k := k)
end
theorem newX (w : World) (M I : BS) (H : Hp ⟨w, M, I⟩ [] [] w) :
    Ctr Tryz.prog 29 [] w M I (fun l : Nat => .pointer (some ⟨l, 0, none⟩)) (fun _ => True) (fun l => [ledO l ⟨[], [], []⟩]) (fun _ => []) :=
  (new_ w M I H).imp fun ⟨l, m1, m2⟩ w' _ h => ⟨l, rfl, trivial, ledClose (l := l) (m1 := m1) (m2 := m2) (s := ⟨none, 0, 0⟩) (d := ⟨[], [], []⟩) (show Hp ⟨w, M, I⟩ [blk l [.slice none 0 0, .map (some m1), .map (some m2)] 146, row 158 6 (.slice none 0 0) 0 (lnsC []), mapO m1 keyV iV [], mapO m2 prV iV []] [] w' from h) rfl⟩
def postS (d : Led) (k : Key) (ls : List Leg) (e : ErrF) (d' : Led) : Prop :=
  if rightB k ls = false then e = .code 1 ∧ d' = d
  else if (lk k d.live).isSome = true then (∃ p, e = .fault p k.loan 10) ∧ d' = d
  else match nextGo d.sums k.loan ls [] with
    | none => (∃ p, e = .fault p k.loan 12) ∧ d' = d
    | some nx => e = .none ∧ d'.live = putL k (d.lns.length : Int) d.live ∧ (∃ sv, d'.lns = d.lns ++ [⟨k, sv, 0, ls⟩]) ∧ ∀ p, lk p d'.sums = (lk p nx).or (lk p d.sums)
theorem postS_of {s : SV} {d : Led} {k : Key} {ls : List Leg} {a : AR} (h : postOk s d k ls a) : postS d k ls a.e a.d := by
  unfold postOk at h
  unfold postS
  split at h
  · rename_i q
    subst h
    rw [if_pos q]; exact ⟨rfl, rfl⟩
  · rename_i q
    rw [if_neg q]
    split at h
    · rename_i q2
      obtain ⟨p, rfl⟩ := h
      rw [if_pos q2]; exact ⟨⟨p, rfl⟩, rfl⟩
    · rename_i q2
      rw [if_neg q2]
      split at h
      · rename_i q3
        obtain ⟨p, rfl⟩ := h; simp only [q3]; exact ⟨⟨p, rfl⟩, trivial⟩
      · rename_i q3
        simp only [q3]; exact ⟨h.1, h.2.2⟩
theorem postX (l : Nat) (d : Led) (hI : Inv d) (hd : d.lns.length ≤ 100000) (k : Key) (hk : keyIn k) (A : Option Addr) (n c : Nat) (ls : List Leg) (hls : ls.length ≤ 1000) (w : World) (M I : BS)
    (H : Hp ⟨w, M, I⟩ [ledO l d] [Sl legR (.slice A n c) ls, LnF d.lns] w) :
    Ctr Tryz.prog 62 [.pointer (some ⟨l, 0, none⟩), .agg #[.int .u32 k.loan, .int .i32 k.day, .int .u8 k.kind, .int .u32 k.seq, .slice A n c]] w M I (fun a : ErrF × Led => errFV a.1) (fun a => postS d k ls a.1 a.2 ∧ After d a.2 k) (fun a => [errFA a.1, ledO l a.2]) (fun a => [LnF a.2.lns]) := by
  have hlg := legs_ok (A := A) (n := n) (c := c) H
  obtain ⟨m1, m2, s, hs, H1⟩ := ledOpen (l := l) (d := d) H
  refine (post_ l m1 m2 s d hd hs hI.in_ k hk A n c ls hls w M I H1).imp fun ⟨e, s', d'⟩ w' hφ h => ?_
  obtain ⟨h1, h2⟩ := post_after hI hs hk hlg hφ
  exact ⟨(e, d'), rfl, ⟨postS_of hφ, h1⟩, Hp.keep (ledClose (l := l) (m1 := m1) (m2 := m2) (s := s') (d := d') (show Hp ⟨w, M, I⟩ [errFA e, blk l [.slice s'.A s'.n s'.c, .map (some m1), .map (some m2)] 146, row 158 6 (.slice s'.A s'.n s'.c) s'.n (lnsC d'.lns), mapO m1 keyV iV d'.live, mapO m2 prV iV d'.sums] [LnF d'.lns] w' from h) h2)⟩
def revS (d : Led) (k : Key) (e : ErrF) (d' : Led) : Prop := match lk k d.live with
  | none => (∃ p, e = .fault p k.loan 3) ∧ d' = d
  | some i => ∃ x, d.lns[i.toNat]? = some x ∧ (if rightB x.k x.ls = false then e = .code 1 ∧ d' = d else if turnGo 0 x.ls = false then e = .code 12 ∧ d' = d
      else match nextGo d.sums x.k.loan (x.ls.map negL) [] with
      | none => (∃ p, e = .fault p x.k.loan 12) ∧ d' = d
      | some nx => e = .none ∧ d'.live = delL k d.live ∧ (∃ sv, d'.lns = d.lns ++ [⟨x.k, sv, i + 1, x.ls.map negL⟩]) ∧ ∀ p, lk p d'.sums = (lk p nx).or (lk p d.sums))
theorem revS_of {s : SV} {d : Led} {k : Key} {a : AR} (h : revOk s d k a) : revS d k a.e a.d := by
  unfold revOk at h
  unfold revS
  split at h
  · rename_i q3
    obtain ⟨p, rfl⟩ := h; simp only [q3]; exact ⟨⟨p, rfl⟩, trivial⟩
  · rename_i q4
    obtain ⟨x, hx, h⟩ := h
    simp only [q4]
    refine ⟨x, hx, ?_⟩
    split at h
    · rename_i q
      subst h
      rw [if_pos q]; exact ⟨rfl, rfl⟩
    · rename_i q
      rw [if_neg q]
      split at h
      · rename_i q2
        subst h
        rw [if_pos q2]; exact ⟨rfl, rfl⟩
      · rename_i q2
        rw [if_neg q2]
        split at h
        · rename_i q3
          obtain ⟨p, rfl⟩ := h; simp only [q3]; exact ⟨⟨p, rfl⟩, trivial⟩
        · rename_i q3
          simp only [q3]; exact ⟨h.1, h.2.2⟩
theorem revX (l : Nat) (d : Led) (hI : Inv d) (hd : d.lns.length ≤ 100000) (k : Key) (hk : keyIn k) (w : World) (M I : BS) (H : Hp ⟨w, M, I⟩ [ledO l d] [LnF d.lns] w) :
    Ctr Tryz.prog 60 [.pointer (some ⟨l, 0, none⟩), keyV k] w M I (fun a : ErrF × Led => errFV a.1) (fun a => revS d k a.1 a.2 ∧ After d a.2 k) (fun a => [errFA a.1, ledO l a.2]) (fun a => [LnF a.2.lns]) := by
  obtain ⟨m1, m2, s, hs, H1⟩ := ledOpen (l := l) (d := d) H
  refine (reverse_ l m1 m2 s d hd hs hI.in_ k hk (rev_pre hI) w M I H1).imp fun ⟨e, s', d'⟩ w' hφ h => ?_
  obtain ⟨h1, h2⟩ := rev_after hI hs hφ
  exact ⟨(e, d'), rfl, ⟨revS_of hφ, h1⟩, Hp.keep (ledClose (l := l) (m1 := m1) (m2 := m2) (s := s') (d := d') (show Hp ⟨w, M, I⟩ [errFA e, blk l [.slice s'.A s'.n s'.c, .map (some m1), .map (some m2)] 146, row 158 6 (.slice s'.A s'.n s'.c) s'.n (lnsC d'.lns), mapO m1 keyV iV d'.live, mapO m2 prV iV d'.sums] [LnF d'.lns] w' from h) h2)⟩
theorem lenX (l : Nat) (d : Led) (w : World) (M I : BS) (H : Hp ⟨w, M, I⟩ [ledO l d] [] w) :
    Ctr Tryz.prog 54 [.pointer (some ⟨l, 0, none⟩)] w M I (fun _ : Unit => .int .i64 (d.lns.length : Int)) (fun _ => True) (fun _ => [ledO l d]) (fun _ => []) := by
  obtain ⟨m1, m2, s, hs, H1⟩ := ledOpen (l := l) (d := d) H
  refine (Ctr.frame H1 fun M I _ h => len__ l m1 m2 s _ M I h).imp fun _ w' _ h => ?_
  exact ⟨(), by simp only [hs], trivial, ledClose (l := l) (m1 := m1) (m2 := m2) (s := s) h hs⟩
end Go.Proofs.YtjlfjjgjghdokaaGreatDoor
set_option linter.unusedVariables false
namespace Go.Proofs.YtjlfjjgjghdokaaGreatDoor
open Go Go.Proofs Go.Wk
theorem live_off {d : Led} (hI : Inv d) {k : Key} (h : ∀ x, x ∈ d.lns → x.k ≠ k) : lk k d.live = none := by
  have h1 := hI.live k
  split at h1
  · rename_i h0
    obtain ⟨x, hx, e, _⟩ := hI.at_ k h0
    exact absurd e (h x (List.mem_of_getElem? hx))
  · exact h1
/-- The sums behind a line: those of its accounts have its amounts more. -/
theorem sums_more {sums m nx : List (Pr × Int)} {loan : Int} {ls : List Leg} (hr : rise ls) (hn : nextGo sums loan ls [] = some nx) (hm : ∀ p, lk p m = (lk p nx).or (lk p sums)) (p : Pr) :
    getS m p = getS sums p + if p.loan = (if p.ctl = true then 0 else loan) then (amtOf p.acct ls).getD 0 else 0 := by
  obtain ⟨_, h2⟩ := nextGo_some hr hn
  have : getS m p = ((updP sums loan ls p).or (lk p sums)).getD 0 := by
    show (lk p m).getD 0 = _
    rw [hm p, h2 p]; simp [lk]
  rw [this]
  unfold updP
  by_cases e : p.loan = if p.ctl = true then 0 else loan
  · rw [if_pos e, if_pos e]
    cases amtOf p.acct ls with
    | none => show (lk p sums).getD 0 = (lk p sums).getD 0 + 0; omega
    | some v => rfl
  · rw [if_neg e, if_neg e]
    show (lk p sums).getD 0 = (lk p sums).getD 0 + 0; omega
theorem nextGo_isSome {sums sums' : List (Pr × Int)} {loan : Int} {ls : List Leg} (h : ∀ p, getS sums p = getS sums' p) (hs : (nextGo sums loan ls []).isSome = true) (hr : rise ls) : (nextGo sums' loan ls []).isSome = true := by
  cases hn : nextGo sums' loan ls [] with
  | some _ => rfl
  | none =>
    obtain ⟨g, hg, hn⟩ := nextGo_none hn
    cases hq : nextGo sums loan ls [] with
    | none => rw [hq] at hs; cases hs
    | some nx => exact absurd ((nextGo_some hr hq).1 g hg) (by rw [h, h]; exact hn)
theorem amtOf_neg (a : Int) : ∀ ls : List Leg, (∀ g, g ∈ ls → g.amt ≠ -9223372036854775808 ∧ legIn g) → (amtOf a (ls.map negL)).getD 0 = -((amtOf a ls).getD 0)
  | [], _ => by simp [amtOf]
  | g :: r, h => by
    obtain ⟨h1, h2, h3⟩ := h g List.mem_cons_self
    have ih := amtOf_neg a r fun x hx => h x (List.mem_cons_of_mem _ hx)
    simp only [kLo, kHi, inK] at h3
    have e : (negL g).amt = -g.amt := by simp [negL]
    have e2 : (negL g).acct = g.acct := by simp [negL]
    simp only [List.map_cons, amtOf, e2]
    split
    · simp [e]
    · exact ih
section
variable {d d1 d2 d3 : Led} {k : Key} {ls : List Leg}
structure Nine (d : Led) (k : Key) (ls : List Leg) : Prop where
  inv : Inv d
  off : ∀ x, x ∈ d.lns → x.k.loan ≠ k.loan
  kin : keyIn k
  lin : ∀ g, g ∈ ls → legIn g
  right : rightB k ls = true
  turn : turnGo 0 ls = true
theorem Nine.post {e : ErrF} (hN : Nine d k ls) (h : postS d k ls e d1) : ((∃ p, e = .fault p k.loan 12) ∧ d1 = d) ∨
    (e = .none ∧ (nextGo d.sums k.loan ls []).isSome = true ∧ lk k d1.live = some (d.lns.length : Int) ∧ (∃ sv, d1.lns = d.lns ++ [⟨k, sv, 0, ls⟩]) ∧ ∀ p, getS d1.sums p = getS d.sums p + if p.loan = (if p.ctl = true then 0 else k.loan) then (amtOf p.acct ls).getD 0 else 0) := by
  unfold postS at h
  rw [if_neg (by rw [hN.right]; simp), live_off hN.inv (fun x hx e => hN.off x hx (by rw [e])), if_neg (by simp)] at h
  cases hn : nextGo d.sums k.loan ls [] with
  | none => rw [hn] at h; exact .inl h
  | some nx =>
    rw [hn] at h
    obtain ⟨h1, h2, h3, h4⟩ := h
    exact .inr ⟨h1, rfl, by rw [h2, lk_put_eq], h3, sums_more (rightB_rise hN.right) hn h4⟩
theorem Nine.rev {e : ErrF} (hN : Nine d k ls) (hI1 : Inv d1) (hs : (nextGo d.sums k.loan ls []).isSome = true) (h1 : lk k d1.live = some (d.lns.length : Int)) (h2 : ∃ sv, d1.lns = d.lns ++ [⟨k, sv, 0, ls⟩]) (h3 : ∀ p, getS d1.sums p = getS d.sums p + if p.loan = (if p.ctl = true then 0 else k.loan) then (amtOf p.acct ls).getD 0 else 0) (h : revS d1 k e d2) :
    e = .none ∧ lk k d2.live = none ∧ d2.lns.length = d.lns.length + 2 ∧ (∀ x, x ∈ d2.lns → x.k = k ∨ x ∈ d.lns) ∧ ∀ p, getS d2.sums p = getS d.sums p := by
  obtain ⟨sv, h2⟩ := h2
  unfold revS at h
  rw [h1] at h
  simp only [h2, Int.toNat_natCast] at h
  obtain ⟨x, hx, h⟩ := h
  obtain rfl : x = ⟨k, sv, 0, ls⟩ := by
    rw [List.getElem?_append_right (Nat.le_refl _), Nat.sub_self] at hx
    exact (Option.some.inj hx).symm
  have hne := turnGo_ne hN.turn
  have hne2 : ∀ g, g ∈ ls → g.amt ≠ -9223372036854775808 ∧ legIn g := fun g hg => ⟨hne g hg, hN.lin g hg⟩
  have hr2 : rise (ls.map negL) := by
    have : rightB k (ls.map negL) = true := by rw [rightB_neg (fun g hg => ⟨hne g hg, (hN.lin g hg).2⟩) hN.right]; exact hN.turn
    exact rightB_rise this
  have hr := rightB_rise hN.right
  simp only at h
  rw [if_neg (by rw [hN.right]; simp), if_neg (by rw [hN.turn]; simp)] at h
  cases hn : nextGo d1.sums k.loan (ls.map negL) [] with
  | none =>
    exfalso
    obtain ⟨g, hg, hn⟩ := nextGo_none hn
    obtain ⟨g0, hg0, rfl⟩ := List.mem_map.1 hg
    refine hn ?_
    have hi : ∀ q : Pr, in64 (getS d.sums q) = true := fun q => by
      obtain ⟨a, b⟩ := hN.inv.in_ q
      simp only [kLo, kHi] at a b
      simp only [in64, Bool.and_eq_true, decide_eq_true_eq]
      exact ⟨a, b⟩
    have e2 : (negL g0).amt = -g0.amt := by simp [negL]
    have e3 : (negL g0).acct = g0.acct := by simp [negL]
    have e4 := amtOf_mem hr hg0
    rw [e2, e3, h3, h3]
    simp only [e4, Bool.false_eq_true, if_false, if_true, Option.getD_some]
    rw [Int.add_neg_cancel_right, Int.add_neg_cancel_right]
    exact ⟨hi _, hi _⟩
  | some nx =>
    rw [hn] at h
    obtain ⟨q1, q2, ⟨sv', q3⟩, q4⟩ := h
    refine ⟨q1, ?_, ?_, ?_, fun p => ?_⟩
    · rw [q2, lk_del hI1.nd, if_pos rfl]
    · rw [q3]; simp
    · intro x hx
      rw [q3] at hx
      simp only [List.append_assoc, List.mem_append, List.mem_cons, List.not_mem_nil, or_false] at hx
      rcases hx with hx | rfl | rfl
      · exact .inr hx
      · exact .inl rfl
      · exact .inl rfl
    · rw [sums_more hr2 hn q4, h3, amtOf_neg _ _ hne2]
      split <;> omega
theorem Nine.again {e : ErrF} (hN : Nine d k ls) (hs : (nextGo d.sums k.loan ls []).isSome = true) (h1 : lk k d2.live = none) (h2 : ∀ p, getS d2.sums p = getS d.sums p) (h : postS d2 k ls e d3) : e = .none := by
  unfold postS at h
  rw [if_neg (by rw [hN.right]; simp), h1, if_neg (by simp)] at h
  have := nextGo_isSome (fun p => (h2 p).symm) hs (rightB_rise hN.right)
  cases hn : nextGo d2.sums k.loan ls [] with
  | none => rw [hn] at this; cases this
  | some nx => rw [hn] at h; exact h.1
theorem Nine.empty (hN : Nine d k ls) (hI2 : Inv d2) (hk : ∀ l : Key, l.loan = k.loan → ∀ x, x ∈ d2.lns → x.k = l → l = k) (h1 : lk k d2.live = Option.none) : ∀ q, q ∈ d2.live → q.1.loan ≠ k.loan := fun q hq e => by
  have h2 := lk_of_mem hI2.nd (k := q.1) (v := q.2) hq
  have h3 := hI2.live q.1
  rw [h2] at h3
  split at h3
  · rename_i h0
    obtain ⟨x, hx, hxk, _⟩ := hI2.at_ q.1 h0
    have := hk q.1 e x (List.mem_of_getElem? hx) hxk
    rw [this, h1] at h2
    cases h2
  · cases h3
end
end Go.Proofs.YtjlfjjgjghdokaaGreatDoor
set_option linter.unusedVariables false
namespace Go.Proofs.YtjlfjjgjghdokaaGreatDoor
open Go Go.Proofs Go.Wk
set_option maxRecDepth 20000 in
theorem sortHd (G : Nat) (hc : CmpG G) (h : Hd) (h12 : h.es.length ≤ 1000000) (w : World) (M I : BS) (H : Hp ⟨w, M, I⟩ [row 71 5 (.slice h.A h.es.length h.c) h.es.length (ensC h.es)] [] w) :
    Ctr Tryz.prog 66 [.slice h.A h.es.length h.c, .func (.func G) #[] #[]] w M I (fun _ : List En => .tuple #[]) (fun l => l.Perm h.es ∧ srtE l) (fun l => [row 71 5 (.slice h.A h.es.length h.c) h.es.length (ensC l)]) (fun _ => []) := by
  obtain ⟨A, c, es⟩ := h
  simp only at h12 H ⊢
  obtain ⟨fa, ha⟩ := Hp.own (A := row 71 5 (.slice A es.length c) es.length (ensC es)) H
  rcases ha.1.2 with ⟨h1, h2⟩ | ⟨g, cap, cur, h1, _⟩
  · injection h1 with e1 e2 e3
    subst e1 e3
    have he : es = [] := List.eq_nil_of_length_eq_zero e2
    subst he
    exact (Ctr.frame (A0 := []) (G0 := []) H fun M I _ h => sortEntNil G _ M I h).imp fun _ w' _ h => ⟨[], rfl, ⟨List.Perm.refl _, List.Pairwise.nil⟩, h⟩
  · injection h1 with e1 e2 e3
    subst e1 e3
    exact sortEnt G hc g es.length c h12 es rfl w M I H
/-- The entry of a key that is live. -/
def entAt (d : Led) (p : Key × Int) : Option (Key × List Leg) := (d.lns[p.2.toNat]?).map fun x => (p.1, x.ls)
def liveOn (loan : Int) (d : Led) (m : List (Key × Int)) : List (Key × List Leg) := (m.filter fun p => decide (p.1.loan = loan)).filterMap (entAt d)
def liveOf (loan : Int) (d : Led) : List (Key × List Leg) := liveOn loan d d.live
theorem liveOn_perm {loan : Int} {d : Led} {a b : List (Key × Int)} (h : a.Perm b) : (liveOn loan d a).Perm (liveOn loan d b) := (h.filter _).filterMap _
theorem liveOn_yes {loan : Int} {d : Led} {m : List (Key × Int)} {p : Key × Int} {x : Ln} (h1 : p.1.loan = loan) (h2 : d.lns[p.2.toNat]? = some x) : liveOn loan d (m ++ [p]) = liveOn loan d m ++ [(p.1, x.ls)] := by
  unfold liveOn
  rw [List.filter_append, List.filterMap_append]
  have e : List.filter (fun q : Key × Int => decide (q.1.loan = loan)) [p] = [p] := by simp [h1]
  rw [e]
  simp [entAt, h2]
theorem liveOn_no {loan : Int} {d : Led} {m : List (Key × Int)} {p : Key × Int} (h1 : p.1.loan ≠ loan) : liveOn loan d (m ++ [p]) = liveOn loan d m := by
  unfold liveOn
  rw [List.filter_append, List.filterMap_append]
  have e : List.filter (fun q : Key × Int => decide (q.1.loan = loan)) [p] = [] := by simp [h1]
  rw [e]
  simp
theorem live_at {d : Led} (hI : Inv d) {p : Key × Int} (hp : p ∈ d.live) : 0 ≤ p.2 ∧ ∃ x, d.lns[p.2.toNat]? = some x ∧ x.k = p.1 ∧ x.of = 0 := by
  have h1 := lk_of_mem hI.nd (show (p.1, p.2) ∈ d.live from hp)
  have h2 := hI.live p.1
  rw [h1] at h2
  split at h2
  · rename_i h0
    have e := Option.some.inj h2
    obtain ⟨x, q1, q2, q3⟩ := hI.at_ p.1 h0
    rw [← e] at q1 h0
    exact ⟨h0, x, q1, q2, q3⟩
  · cases h2
theorem enF_snoc {B : Base} {S : List Asn} {F : List Fact} {w : World} {es : List En} {k : Key} {sv : SV} {ls : List Leg} (H : Hp B S (Sl legR (.slice sv.A sv.n sv.c) ls :: EnF es :: F) w) : Hp B S (EnF (es ++ [⟨k, sv, ls⟩]) :: F) w := H.facts fun I ha f hf => by
  rcases List.mem_cons.1 hf with rfl | hf
  · intro z hz
    rcases List.mem_append.1 hz with hz | hz
    · exact ha (EnF es) (List.mem_cons_of_mem _ List.mem_cons_self) z hz
    · rw [List.mem_singleton] at hz
      subst hz
      exact ha _ List.mem_cons_self
  · exact ha f (List.mem_cons_of_mem _ (List.mem_cons_of_mem _ hf))
theorem enF_perm {B : Base} {S : List Asn} {F : List Fact} {w : World} {es l : List En} (hp : l.Perm es) (H : Hp B S (EnF es :: F) w) : Hp B S (EnF l :: F) w := H.facts fun I ha f hf => by
  rcases List.mem_cons.1 hf with rfl | hf
  · intro z hz
    exact ha (EnF es) List.mem_cons_self z (hp.mem_iff.1 hz)
  · exact ha f (List.mem_cons_of_mem _ hf)
structure RS where
  lf : List (Key × Int)
  cur : Option (Key × Int)
  dn : List (Key × Int)
  h : Hd
set_option maxHeartbeats 2000000 in
set_option maxRecDepth 20000 in
theorem loanL (l m1 m2 : Nat) (s : SV) (d : Led) (hI : Inv d) (hd : d.lns.length ≤ 100000) (hsn : s.n = d.lns.length) (loan : Int) (w : World) (M I : BS)
    (H : Hp ⟨w, M, I⟩ [blk l [.slice s.A s.n s.c, .map (some m1), .map (some m2)] 146, row 158 6 (.slice s.A s.n s.c) s.n (lnsC d.lns), mapO m1 keyV iV d.live] [LnF d.lns] w) :
    Ctr Tryz.prog 33 [.pointer (some ⟨l, 0, none⟩), .int .u32 loan] w M I (fun h : Hd => .slice h.A h.es.length h.c) (fun h => (h.es.map kl).Perm (liveOf loan d) ∧ srtE h.es)
      (fun h => [blk l [.slice s.A s.n s.c, .map (some m1), .map (some m2)] 146, row 158 6 (.slice s.A s.n s.c) s.n (lnsC d.lns), mapO m1 keyV iV d.live, row 71 5 (.slice h.A h.es.length h.c) h.es.length (ensC h.es)]) (fun h => [EnF h.es]) := by
  have hcnt := hI.cnt
  refine Exe.of_ev tok Tryz.call33 Tryz.func33 rfl rfl rfl ?_
  refine load_rule tok H (v := .map (some m1)) rfl ?_
  refine range_rule (n := m1) tok H rfl fun it w1 H1 => ?_
  have H1 : Hp ⟨w, M, I⟩ [rngO m1 it keyV iV d.live d.live none, row 71 5 (.slice none 0 0) 0 [], blk l [.slice s.A s.n s.c, .map (some m1), .map (some m2)] 146, row 158 6 (.slice s.A s.n s.c) s.n (lnsC d.lns)] [EnF [], LnF d.lns] w1 := Hp.keep (hpEnNil (Hp.nil H1 71 5))
  refine loop_out tok (σ := RS) (τ := Hd) 68719444192 0 (fun r => [(5, .slice r.h.A r.h.es.length r.h.c)])
    (fun r w' => (r.dn ++ r.lf).Perm d.live ∧ r.h.es.map kl = liveOn loan d r.dn ∧ Hp ⟨w, M, I⟩ [rngO m1 it keyV iV d.live r.lf r.cur, row 71 5 (.slice r.h.A r.h.es.length r.h.c) r.h.es.length (ensC r.h.es), blk l [.slice s.A s.n s.c, .map (some m1), .map (some m2)] 146, row 158 6 (.slice s.A s.n s.c) s.n (lnsC d.lns)] [EnF r.h.es, LnF d.lns] w') (fun r => r.lf.length) ⟨d.live, none, [], ⟨none, 0, []⟩⟩
    (fun h => [(5, .slice h.A h.es.length h.c)]) (fun h w' => (h.es.map kl).Perm (liveOf loan d) ∧ Hp ⟨w, M, I⟩ [mapO m1 keyV iV d.live, row 71 5 (.slice h.A h.es.length h.c) h.es.length (ensC h.es), blk l [.slice s.A s.n s.c, .map (some m1), .map (some m2)] 146, row 158 6 (.slice s.A s.n s.c) s.n (lnsC d.lns)] [EnF h.es] w') rfl rfl ⟨rfl, trivial⟩ ⟨List.Perm.refl _, rfl, H1⟩ ?_ ?_
  · intro r j w2 hW
    have h1 := hW.1
    have h2 := hW.2.1
    have H2 := hW.2.2
    have hel : r.h.es.length ≤ 100000 := by
      have e1 := congrArg List.length h2
      rw [List.length_map] at e1
      have e2 : (liveOn loan d r.dn).length ≤ r.dn.length := by
        unfold liveOn
        exact Nat.le_trans (List.length_filterMap_le _ _) (List.length_filter_le _ _)
      have e3 := h1.length_eq
      rw [List.length_append] at e3
      omega
    refine next_rule (n := m1) H2 (fun hl => ?_) fun a p b w3 hl H3 => ?_
    · have H3 : Hp ⟨w, M, I⟩ [mapO m1 keyV iV d.live, row 71 5 (.slice r.h.A r.h.es.length r.h.c) r.h.es.length (ensC r.h.es), blk l [.slice s.A s.n s.c, .map (some m1), .map (some m2)] 146, row 158 6 (.slice s.A s.n s.c) s.n (lnsC d.lns)] [EnF r.h.es] w2 := Hp.keep (H2.rngBack (n := m1) (g := it))
      refine Exists.intro r.h (And.intro ⟨rfl, trivial⟩ ⟨?_, H3⟩)
      rw [h2]
      rw [hl, List.append_nil] at h1
      exact liveOn_perm h1
    · have hpm : p ∈ d.live := h1.mem_iff.1 (by rw [hl]; simp)
      have hla := live_at hI hpm
      have h3 : (r.dn ++ [p] ++ (a ++ b)).Perm d.live := by
        refine List.Perm.trans ?_ h1
        rw [hl, List.append_assoc]
        exact List.Perm.append_left _ (by simpa using (List.perm_middle (a := p) (l₁ := a) (l₂ := b)).symm)
      have hlen : (a ++ b).length < r.lf.length := by
        rw [hl, List.length_append, List.length_append, List.length_cons]
        omega
      refine entry_rule (n := m1) H3 ?_
      refine alloc_as tok H3 [.int .u32 0, .int .i32 0, .int .u8 0, .int .u32 0] rfl rfl rfl fun t w4 H4 => ?_
      refine store_as tok H4 (keyC p.1) rfl rfl rfl rfl rfl fun w5 H5 => ?_
      refine load_rule tok H5 (v := .int .u32 p.1.loan) rfl ?_
      refine br (fun q => ?_) (fun q => ?_)
      · have q : p.1.loan = loan := eq_of_beq q
        refine Exists.elim hla.2 fun x hx => ?_
        have hx1 := hx.1
        have hx2 := hx.2.1
        have hi0 := hla.1
        have hxl := (List.getElem?_eq_some_iff.1 hx1).1
        have hi1 : p.2 < (s.n : Int) := by omega
        have hok := hI.ok x (List.mem_of_getElem? hx1)
        have hxs := (right_day hok.2.2.1).2.1
        have H5' := Hp.lnAt H5 (xs := d.lns) (List.mem_of_getElem? hx1)
        refine load_rule tok H5' (v := .slice s.A s.n s.c) rfl ?_
        refine Exists.elim (row_at (A := s.A) (n := s.n) (c := s.c) H5' (by omega)) fun g hA => ?_
        refine idx_ownA tok hA rfl rfl hi0 hi1 ?_
        refine row_ldA (A := s.A) (n := s.n) (c := s.c) tok H5' (.agg #[.int .u32 x.k.loan, .int .i32 x.k.day, .int .u8 x.k.kind, .int .u32 x.k.seq, .slice x.s.A x.s.n x.s.c]) hA (lns_get hx1) ?_
        refine call_rule H5' (fun M I h0 h => copied x.k x.s.A x.s.n x.s.c x.ls (by omega) _ M I (h0 rfl) h) fun sv w6 _ H6 => ?_
        refine slice_as tok H6 (enC ⟨x.k, sv, x.ls⟩) rfl rfl rfl rfl rfl rfl fun g2 w7 H7 => ?_
        refine append_rule (v := .slice r.h.A r.h.es.length r.h.c) (b := g2) (m := 1) (c := 1) tok H7 rfl rfl rfl rfl rfl rfl rfl rfl (by show (r.h.es.length + 1) * 40 ≤ _; omega) (by omega) fun A2 c2 w8 H8 => ?_
        have el : ensC r.h.es ++ enC ⟨x.k, sv, x.ls⟩ = ensC (r.h.es ++ [⟨x.k, sv, x.ls⟩]) := (flatL_snoc (f := enC) r.h.es (En.mk x.k sv x.ls)).symm
        have en : r.h.es.length + 1 = (r.h.es ++ [En.mk x.k sv x.ls]).length := by rw [List.length_append]; rfl
        rw [el, en] at H8
        have H9 : Hp ⟨w, M, I⟩ [rngO m1 it keyV iV d.live (a ++ b) (some p), row 71 5 (.slice A2 (r.h.es ++ [En.mk x.k sv x.ls]).length c2) (r.h.es ++ [En.mk x.k sv x.ls]).length (ensC (r.h.es ++ [En.mk x.k sv x.ls])), blk l [.slice s.A s.n s.c, .map (some m1), .map (some m2)] 146, row 158 6 (.slice s.A s.n s.c) s.n (lnsC d.lns)] [Sl legR (.slice sv.A sv.n sv.c) x.ls, EnF r.h.es, LnF d.lns] w8 := Hp.keep H8
        have H9 : Hp ⟨w, M, I⟩ [rngO m1 it keyV iV d.live (a ++ b) (some p), row 71 5 (.slice A2 (r.h.es ++ [En.mk x.k sv x.ls]).length c2) (r.h.es ++ [En.mk x.k sv x.ls]).length (ensC (r.h.es ++ [En.mk x.k sv x.ls])), blk l [.slice s.A s.n s.c, .map (some m1), .map (some m2)] 146, row 158 6 (.slice s.A s.n s.c) s.n (lnsC d.lns)] [EnF (r.h.es ++ [En.mk x.k sv x.ls]), LnF d.lns] w8 := enF_snoc H9
        refine Exists.intro ⟨a ++ b, some p, r.dn ++ [p], ⟨A2, c2, r.h.es ++ [En.mk x.k sv x.ls]⟩⟩ (And.intro ⟨?_, trivial⟩ (And.intro hlen ⟨h3, ?_, H9⟩))
        · show Value.slice A2 (r.h.es.length + 1) c2 = .slice A2 (r.h.es ++ [En.mk x.k sv x.ls]).length c2
          rw [en]
        · show (r.h.es ++ [En.mk x.k sv x.ls]).map kl = _
          rw [List.map_append, h2, liveOn_yes q hx1, ← hx2]
          rfl
      · have q : p.1.loan ≠ loan := ne_of_beq_false q
        refine Exists.intro ⟨a ++ b, some p, r.dn ++ [p], r.h⟩ (And.intro ⟨rfl, trivial⟩ (And.intro hlen ⟨h3, ?_, Hp.keep H5⟩))
        show r.h.es.map kl = _
        rw [h2, liveOn_no q]
  intro h j w2 hW
  have h1 := hW.1
  have H2 := hW.2
  have hle : h.es.length ≤ 1000000 := by
    have e := h1.length_eq
    rw [List.length_map] at e
    have e2 : (liveOf loan d).length ≤ d.live.length := by
      unfold liveOf liveOn
      exact Nat.le_trans (List.length_filterMap_le _ _) (List.length_filter_le _ _)
    omega
  refine call_rule H2 (fun M I _ hh => sortHd 67 cmpGA h hle _ M I hh) fun es w3 hes H3 => ?_
  have e1 : h.es.length = es.length := hes.1.length_eq.symm
  have H4 : Hp ⟨w, M, I⟩ [blk l [.slice s.A s.n s.c, .map (some m1), .map (some m2)] 146, row 158 6 (.slice s.A s.n s.c) s.n (lnsC d.lns), mapO m1 keyV iV d.live, row 71 5 (.slice h.A es.length h.c) es.length (ensC es)] [EnF es] w3 := by
    rw [← e1]
    exact enF_perm hes.1 (Hp.keep H3)
  refine Exists.intro ⟨h.A, h.c, es⟩ (And.intro ?_ (And.intro ⟨(hes.1.map kl).trans h1, hes.2⟩ H4))
  show Value.slice h.A h.es.length h.c = .slice h.A es.length h.c
  rw [e1]
end Go.Proofs.YtjlfjjgjghdokaaGreatDoor
set_option linter.unusedVariables false
namespace Go.Proofs.YtjlfjjgjghdokaaGreatDoor
open Go Go.Proofs Go.Wk Go.Extern
namespace X
theorem mComp (h : Value) (w : World) : (Go.method (Tryz.prog.types.size + Made.depth) 293 (.agg #[h]) "Comparable").run Tryz.prog w = .ok (314, .agg #[h]) w := by kernel_rfl
theorem compE (w : World) : (ReflectliteType.method (fun t => do Rtype.noPackHeld "Comparable" t; pure (.bool (← typeInfo t).comparable)) #[.agg #[hdl 100]]).run Tryz.prog w = .ok (.bool true) w := by kernel_rfl
theorem eqFE (a : Addr) (c : Int) (ox oy : Operand) (w : World) : (binS .eql 37 ox oy (.iface 116 (.pointer (some a))) (.iface 100 (.int .i64 c))).run Tryz.prog w = .ok (.bool false) w := by kernel_rfl
theorem eqEE (ox oy : Operand) (w : World) : (binS .eql 37 ox oy (.iface 100 (.int .i64 10)) (.iface 100 (.int .i64 10))).run Tryz.prog w = .ok (.bool true) w := by kernel_rfl
theorem eqNE (ox oy : Operand) (w : World) : (binS .eql 37 ox oy .nilIface (.iface 100 (.int .i64 10))).run Tryz.prog w = .ok (.bool false) w := by kernel_rfl
theorem noIsF (v : Value) (xT : TypeId) (w : World) : (Instr.typeAssert (.iface 116 v) xT 295 true).run Tryz.prog w = .ok (.tuple #[.nilIface, .bool false]) w :=
  Go.run_typeAssert_lacksB Tryz.underlying295 (by kernel_rfl) (by kernel_rfl) v xT w
end X
theorem isNo (w : World) (M I : BS) (H : Hp ⟨w, M, I⟩ [] [] w) : Ctr Tryz.prog 64 [.nilIface, .iface 100 (.int .i64 10)] w M I (fun _ : Unit => .bool false) (fun _ => True) (fun _ => []) (fun _ => []) := by
  refine Exe.of_ev tok Tryz.call64 Tryz.func64 rfl rfl rfl ?_
  refine BinK.of (X.eqNE _ _ w) ?_
  exact Exists.intro () (And.intro rfl (And.intro trivial (Hp.keep H)))
set_option maxRecDepth 20000 in
set_option maxHeartbeats 1000000 in
theorem isIn (p : Nat) (a : Int) (w : World) (M I : BS) (H : Hp ⟨w, M, I⟩ [blk p [.int .u64 a, .iface 100 (.int .i64 10)] 118] [] w) :
    Ctr Tryz.prog 118 [.iface 116 (.pointer (some ⟨p, 0, none⟩)), .iface 100 (.int .i64 10), .bool true] w M I (fun _ : Unit => .bool true) (fun _ => True) (fun _ => [blk p [.int .u64 a, .iface 100 (.int .i64 10)] 118]) (fun _ => []) := by
  refine Exe.of_ev tok Tryz.call118 Tryz.func118 rfl rfl rfl ?_
  refine loop_rule tok (σ := Bool) 18014398509479873 (fun s => [(0, if s = true then .iface 100 (.int .i64 10) else .iface 116 (.pointer (some ⟨p, 0, none⟩)))]) (fun _ w' => Hp ⟨w, M, I⟩ [blk p [.int .u64 a, .iface 100 (.int .i64 10)] 118] [] w') (fun s => if s = true then 0 else 1) false rfl rfl ⟨rfl, trivial⟩ H ?_
  intro s
  cases s with
  | true =>
    intro j w2 H2
    refine BinK.of (X.eqEE _ _ w2) ?_
    exact Exists.intro () (And.intro rfl (And.intro trivial (Hp.keep H2)))
  | false =>
    intro j w2 H2
    refine BinK.of (X.eqFE ⟨p, 0, none⟩ 10 _ _ w2) ?_
    refine AssertK.run (X.noIsF _ _ _) ?_
    refine AssertK.run (X.hasUnwrap _ _ _) ?_
    refine invoke_rule H2 (X.mUnwrap ⟨p, 0, none⟩ w2) (fun M I _ h => unwrapF p a 10 _ M I h) fun _ w3 _ H3 => ?_
    refine Exists.intro true (And.intro ⟨rfl, trivial⟩ (And.intro (by decide) (Hp.keep H3)))
theorem isTwice (p : Nat) (a : Int) (w : World) (M I : BS) (H : Hp ⟨w, M, I⟩ [blk p [.int .u64 a, .iface 100 (.int .i64 10)] 118] [] w) :
    Ctr Tryz.prog 64 [.iface 116 (.pointer (some ⟨p, 0, none⟩)), .iface 100 (.int .i64 10)] w M I (fun _ : Unit => .bool true) (fun _ => True) (fun _ => [blk p [.int .u64 a, .iface 100 (.int .i64 10)] 118]) (fun _ => []) := by
  refine Exe.of_ev tok Tryz.call64 Tryz.func64 rfl rfl rfl ?_
  refine CallK_ext Tryz.func117 (by kernel_rfl) (by kernel_rfl) (by kernel_rfl) (by kernel_rfl) (X.typeOfE (.int .i64 10) w) ?_
  refine InvokeK_ext (X.mComp (hdl 100) w) Tryz.func314 (by kernel_rfl) (by kernel_rfl) (by kernel_rfl) (by kernel_rfl) (X.compE w) ?_
  refine call_rule H (fun M I _ h => isIn p a _ M I h) fun _ w2 _ H2 => ?_
  exact Exists.intro () (And.intro rfl (And.intro trivial (Hp.keep H2)))
end Go.Proofs.YtjlfjjgjghdokaaGreatDoor
