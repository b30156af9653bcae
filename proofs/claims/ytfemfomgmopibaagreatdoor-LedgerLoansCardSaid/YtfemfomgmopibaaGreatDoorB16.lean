/- The ledger as one resource: the contracts of its functions once more. -/
import Derived.Test.YtfemfomgmopibaaGreatDoorB15
import Derived.Test.YtfemfomgmopibaaGreatDoorK7
set_option linter.unusedVariables false
namespace Go.Proofs.YtfemfomgmopibaaGreatDoor
open Go Go.Proofs Go.Wk
def ledO (l : Nat) (d : Led) : Asn := packA (fun i : Nat × Nat × SV => i.2.2.n = d.lns.length) fun i => [blk l [.slice i.2.2.A i.2.2.n i.2.2.c, .map (some i.1), .map (some i.2.1)] 85, row 69 6 (.slice i.2.2.A i.2.2.n i.2.2.c) i.2.2.n (lnsC d.lns), mapO i.1 keyV iV d.live, mapO i.2.1 prV iV d.sums]
def refO (p : Nat) (xs : List Ln) : Asn := packA (fun s : SV => s.n = xs.length) fun s => [blk p [.slice s.A s.n s.c] 33, row 66 6 (.slice s.A s.n s.c) s.n (lnsC xs)]
section
variable {B : Base} {S L : List Asn} {F : List Fact} {w : World} {l p : Nat} {d : Led} {xs : List Ln}
theorem ledOpen (H : Hp B L F w) [k : Take L (ledO l d) S] : ∃ (m1 m2 : Nat) (s : SV), s.n = d.lns.length ∧ Hp B (blk l [.slice s.A s.n s.c, .map (some m1), .map (some m2)] 85 :: row 69 6 (.slice s.A s.n s.c) s.n (lnsC d.lns) :: mapO m1 keyV iV d.live :: mapO m2 prV iV d.sums :: S) F w := by
  obtain ⟨⟨m1, m2, s⟩, hs, h⟩ := Hp.open_ (L := L) (S := S) (p := fun i : Nat × Nat × SV => i.2.2.n = d.lns.length) H (k := k)
  exact ⟨m1, m2, s, hs, h⟩
theorem ledClose {m1 m2 : Nat} {s : SV} (H : Hp B L F w) (hs : s.n = d.lns.length) [k : Pick L [blk l [.slice s.A s.n s.c, .map (some m1), .map (some m2)] 85, row 69 6 (.slice s.A s.n s.c) s.n (lnsC d.lns), mapO m1 keyV iV d.live, mapO m2 prV iV d.sums] S] : Hp B (ledO l d :: S) F w :=
  Hp.close (p := fun i : Nat × Nat × SV => i.2.2.n = d.lns.length) (m1, m2, s) hs H (k := k)
theorem refOpen (H : Hp B L F w) [k : Take L (refO p xs) S] : ∃ s : SV, s.n = xs.length ∧ Hp B (blk p [.slice s.A s.n s.c] 33 :: row 66 6 (.slice s.A s.n s.c) s.n (lnsC xs) :: S) F w := by
  obtain ⟨s, hs, h⟩ := Hp.open_ (L := L) (S := S) (p := fun s : SV => s.n = xs.length) H (k := k)
  exact ⟨s, hs, h⟩
theorem refClose {s : SV} (H : Hp B L F w) (hs : s.n = xs.length) [k : Pick L [blk p [.slice s.A s.n s.c] 33, row 66 6 (.slice s.A s.n s.c) s.n (lnsC xs)] S] : Hp B (refO p xs :: S) F w :=
  Hp.close (p := fun s : SV => s.n = xs.length) s hs H (k := k)
end
/-- The same ledger, the program's and the document's. -/
structure Bo (d : Led) (xs : List Ln) : Prop where
  inv : Inv d
  sim : xs.map stp = d.lns.map stp
theorem newX (w : World) (M I : BS) (H : Hp ⟨w, M, I⟩ [] [] w) :
    Ctr Tryz.prog 8 [] w M I (fun l : Nat => .pointer (some ⟨l, 0, none⟩)) (fun _ => True) (fun l => [ledO l ⟨[], [], []⟩]) (fun _ => []) :=
  (new_ w M I H).imp fun ⟨l, m1, m2⟩ w' _ h => ⟨l, rfl, trivial, ledClose (l := l) (m1 := m1) (m2 := m2) (s := ⟨none, 0, 0⟩) (d := ⟨[], [], []⟩) (show Hp ⟨w, M, I⟩ [blk l [.slice none 0 0, .map (some m1), .map (some m2)] 85, row 69 6 (.slice none 0 0) 0 (lnsC []), mapO m1 keyV iV [], mapO m2 prV iV []] [] w' from h) rfl⟩
def postS (d : Led) (k : Key) (ls : List Leg) (e : ErrF) (d' : Led) : Prop :=
  if rightB k ls = false then e = .code 1 ∧ d' = d
  else if (lk k d.live).isSome = true then (∃ p, e = .fault p k.loan 10) ∧ d' = d
  else match nextGo d.sums k.loan ls [] with
    | none => (∃ p, e = .fault p k.loan 12) ∧ d' = d
    | some nx => e = .none ∧ d'.live = putL k (d.lns.length : Int) d.live ∧ (∃ sv, d'.lns = d.lns ++ [⟨k, sv, 0, ls⟩]) ∧ ∀ p, lk p d'.sums = (lk p nx).or (lk p d.sums)
theorem postS_of {s : SV} {d : Led} {k : Key} {ls : List Leg} {a : AR} (h : postOk s d k ls a) : postS d k ls a.e a.d := by
  unfold postOk at h
  unfold postS
  split at h
  · rename_i q
    subst h
    rw [if_pos q]; exact ⟨rfl, rfl⟩
  · rename_i q
    rw [if_neg q]
    split at h
    · rename_i q2
      obtain ⟨p, rfl⟩ := h
      rw [if_pos q2]; exact ⟨⟨p, rfl⟩, rfl⟩
    · rename_i q2
      rw [if_neg q2]
      split at h
      · rename_i q3
        obtain ⟨p, rfl⟩ := h; simp only [q3]; exact ⟨⟨p, rfl⟩, trivial⟩
      · rename_i q3
        simp only [q3]; exact ⟨h.1, h.2.2⟩
theorem postX (l : Nat) (d : Led) (hI : Inv d) (hd : d.lns.length ≤ 100000) (k : Key) (hk : keyIn k) (A : Option Addr) (n c : Nat) (ls : List Leg) (hls : ls.length ≤ 1000) (w : World) (M I : BS)
    (H : Hp ⟨w, M, I⟩ [ledO l d] [Sl legR (.slice A n c) ls, LnF d.lns] w) :
    Ctr Tryz.prog 12 [.pointer (some ⟨l, 0, none⟩), .agg #[.int .u32 k.loan, .int .i32 k.day, .int .u8 k.kind, .int .u32 k.seq, .slice A n c]] w M I (fun a : ErrF × Led => errFV a.1) (fun a => postS d k ls a.1 a.2 ∧ After d a.2 k) (fun a => [errFA a.1, ledO l a.2]) (fun a => [LnF a.2.lns]) := by
  have hlg := legs_ok (A := A) (n := n) (c := c) H
  obtain ⟨m1, m2, s, hs, H1⟩ := ledOpen (l := l) (d := d) H
  refine (post_ l m1 m2 s d hd hs hI.in_ k hk A n c ls hls w M I H1).imp fun ⟨e, s', d'⟩ w' hφ h => ?_
  obtain ⟨h1, h2⟩ := post_after hI hs hk hlg hφ
  exact ⟨(e, d'), rfl, ⟨postS_of hφ, h1⟩, Hp.keep (ledClose (l := l) (m1 := m1) (m2 := m2) (s := s') (d := d') (show Hp ⟨w, M, I⟩ [errFA e, blk l [.slice s'.A s'.n s'.c, .map (some m1), .map (some m2)] 85, row 69 6 (.slice s'.A s'.n s'.c) s'.n (lnsC d'.lns), mapO m1 keyV iV d'.live, mapO m2 prV iV d'.sums] [LnF d'.lns] w' from h) h2)⟩
def revS (d : Led) (k : Key) (e : ErrF) (d' : Led) : Prop := match lk k d.live with
  | none => (∃ p, e = .fault p k.loan 3) ∧ d' = d
  | some i => ∃ x, d.lns[i.toNat]? = some x ∧ (if rightB x.k x.ls = false then e = .code 1 ∧ d' = d else if turnGo 0 x.ls = false then e = .code 12 ∧ d' = d
      else match nextGo d.sums x.k.loan (x.ls.map negL) [] with
      | none => (∃ p, e = .fault p x.k.loan 12) ∧ d' = d
      | some nx => e = .none ∧ d'.live = delL k d.live ∧ (∃ sv, d'.lns = d.lns ++ [⟨x.k, sv, i + 1, x.ls.map negL⟩]) ∧ ∀ p, lk p d'.sums = (lk p nx).or (lk p d.sums))
theorem revS_of {s : SV} {d : Led} {k : Key} {a : AR} (h : revOk s d k a) : revS d k a.e a.d := by
  unfold revOk at h
  unfold revS
  split at h
  · rename_i q3
    obtain ⟨p, rfl⟩ := h; simp only [q3]; exact ⟨⟨p, rfl⟩, trivial⟩
  · rename_i q4
    obtain ⟨x, hx, h⟩ := h
    simp only [q4]
    refine ⟨x, hx, ?_⟩
    split at h
    · rename_i q
      subst h
      rw [if_pos q]; exact ⟨rfl, rfl⟩
    · rename_i q
      rw [if_neg q]
      split at h
      · rename_i q2
        subst h
        rw [if_pos q2]; exact ⟨rfl, rfl⟩
      · rename_i q2
        rw [if_neg q2]
        split at h
        · rename_i q3
          obtain ⟨p, rfl⟩ := h; simp only [q3]; exact ⟨⟨p, rfl⟩, trivial⟩
        · rename_i q3
          simp only [q3]; exact ⟨h.1, h.2.2⟩
theorem revX (l : Nat) (d : Led) (hI : Inv d) (hd : d.lns.length ≤ 100000) (k : Key) (hk : keyIn k) (w : World) (M I : BS) (H : Hp ⟨w, M, I⟩ [ledO l d] [LnF d.lns] w) :
    Ctr Tryz.prog 16 [.pointer (some ⟨l, 0, none⟩), keyV k] w M I (fun a : ErrF × Led => errFV a.1) (fun a => revS d k a.1 a.2 ∧ After d a.2 k) (fun a => [errFA a.1, ledO l a.2]) (fun a => [LnF a.2.lns]) := by
  obtain ⟨m1, m2, s, hs, H1⟩ := ledOpen (l := l) (d := d) H
  refine (reverse_ l m1 m2 s d hd hs hI.in_ k hk (rev_pre hI) w M I H1).imp fun ⟨e, s', d'⟩ w' hφ h => ?_
  obtain ⟨h1, h2⟩ := rev_after hI hs hφ
  exact ⟨(e, d'), rfl, ⟨revS_of hφ, h1⟩, Hp.keep (ledClose (l := l) (m1 := m1) (m2 := m2) (s := s') (d := d') (show Hp ⟨w, M, I⟩ [errFA e, blk l [.slice s'.A s'.n s'.c, .map (some m1), .map (some m2)] 85, row 69 6 (.slice s'.A s'.n s'.c) s'.n (lnsC d'.lns), mapO m1 keyV iV d'.live, mapO m2 prV iV d'.sums] [LnF d'.lns] w' from h) h2)⟩
theorem copyX (l : Nat) (d : Led) (hd : d.lns.length ≤ 100000) (w : World) (M I : BS) (H : Hp ⟨w, M, I⟩ [ledO l d] [] w) :
    Ctr Tryz.prog 10 [.pointer (some ⟨l, 0, none⟩)] w M I (fun a : Nat => .pointer (some ⟨a, 0, none⟩)) (fun _ => True) (fun a => [ledO a d, ledO l d]) (fun _ => []) := by
  obtain ⟨m1, m2, s, hs, H1⟩ := ledOpen (l := l) (d := d) H
  refine (copy_ l m1 m2 s d hd hs w M I H1).imp fun ⟨a, n1, n2, t⟩ w' hφ h => ?_
  have h1 := ledClose (l := l) (m1 := m1) (m2 := m2) (s := s) (d := d) h hs
  exact ⟨a, rfl, trivial, ledClose (l := a) (m1 := n1) (m2 := n2) (s := t) (d := d) h1 (by simp only at hφ; omega)⟩
theorem lenX (l : Nat) (d : Led) (w : World) (M I : BS) (H : Hp ⟨w, M, I⟩ [ledO l d] [] w) :
    Ctr Tryz.prog 18 [.pointer (some ⟨l, 0, none⟩)] w M I (fun _ : Unit => .int .i64 (d.lns.length : Int)) (fun _ => True) (fun _ => [ledO l d]) (fun _ => []) := by
  obtain ⟨m1, m2, s, hs, H1⟩ := ledOpen (l := l) (d := d) H
  refine (Ctr.frame H1 fun M I _ h => len__ l m1 m2 s _ M I h).imp fun _ w' _ h => ?_
  exact ⟨(), by simp only [hs], trivial, ledClose (l := l) (m1 := m1) (m2 := m2) (s := s) h hs⟩
theorem balX (l : Nat) (d : Led) (loan acct : Int) (w : World) (M I : BS) (H : Hp ⟨w, M, I⟩ [ledO l d] [] w) :
    Ctr Tryz.prog 15 [.pointer (some ⟨l, 0, none⟩), .int .u32 loan, .int .u8 acct] w M I (fun _ : Unit => .int .i64 (getS d.sums ⟨loan, acct, false⟩)) (fun _ => True) (fun _ => [ledO l d]) (fun _ => []) := by
  obtain ⟨m1, m2, s, hs, H1⟩ := ledOpen (l := l) (d := d) H
  refine (Ctr.frame H1 fun M I _ h => balance l m1 m2 s d.sums loan acct _ M I h).imp fun _ w' _ h => ?_
  exact ⟨(), rfl, trivial, ledClose (l := l) (m1 := m1) (m2 := m2) (s := s) h hs⟩
theorem ctlX (l : Nat) (d : Led) (acct : Int) (w : World) (M I : BS) (H : Hp ⟨w, M, I⟩ [ledO l d] [] w) :
    Ctr Tryz.prog 17 [.pointer (some ⟨l, 0, none⟩), .int .u8 acct] w M I (fun _ : Unit => .int .i64 (getS d.sums ⟨0, acct, true⟩)) (fun _ => True) (fun _ => [ledO l d]) (fun _ => []) := by
  obtain ⟨m1, m2, s, hs, H1⟩ := ledOpen (l := l) (d := d) H
  refine (Ctr.frame H1 fun M I _ h => control l m1 m2 s d.sums acct _ M I h).imp fun _ w' _ h => ?_
  exact ⟨(), rfl, trivial, ledClose (l := l) (m1 := m1) (m2 := m2) (s := s) h hs⟩
structure DoX (d : Led) (a : Led × List Ln) : Prop where
  bo : Bo a.1 a.2
  more : ∃ ys, a.1.lns = d.lns ++ ys ∧ ys.length ≤ 1 ∧ ∀ y, y ∈ ys → y.k.loan < 5 ∨ ∃ x, x ∈ d.lns ∧ y.k = x.k
theorem doX (l p : Nat) (d : Led) (xs : List Ln) (hB : Bo d xs) (hd : d.lns.length ≤ 900) (dv : Int) (k : Key) (hk : keyIn k) (A : Option Addr) (n c : Nat) (ls : List Leg) (raw : Bool) (bn : Nat) (hbn : bn ≤ 255) (w : World) (M I : BS)
    (H : Hp ⟨w, M, I⟩ [ledO l d, refO p xs] [Sl legR (.slice A n c) ls, LnF d.lns, LnF xs, Glob 0 errTy] w) :
    Ctr Tryz.prog 9 [.pointer (some ⟨l, 0, none⟩), .pointer (some ⟨p, 0, none⟩), .agg #[.int .u8 dv, .int .u32 k.loan, .int .i32 k.day, .int .u8 k.kind, .int .u32 k.seq, .slice A n c, .bool raw, .int .u8 (bn : Int)]] w M I (fun _ : Led × List Ln => .bool true) (DoX d)
      (fun a => [ledO l a.1, refO p a.2]) (fun a => [LnF a.1.lns, LnF a.2]) := by
  obtain ⟨m1, m2, s, hs, H1⟩ := ledOpen (l := l) (d := d) H
  obtain ⟨rs, hr, H2⟩ := refOpen (p := p) (xs := xs) H1
  have H2 : Hp ⟨w, M, I⟩ [blk l [.slice s.A s.n s.c, .map (some m1), .map (some m2)] 85, row 69 6 (.slice s.A s.n s.c) s.n (lnsC d.lns), mapO m1 keyV iV d.live, mapO m2 prV iV d.sums, blk p [.slice rs.A rs.n rs.c] 33, row 66 6 (.slice rs.A rs.n rs.c) rs.n (lnsC xs)] [Sl legR (.slice A n c) ls, LnF d.lns, LnF xs, Glob 0 errTy] w := Hp.keep H2
  refine (do_ l m1 m2 s d p rs xs ⟨hB.inv, hs, hr, hB.sim⟩ hd dv k hk A n c ls raw bn hbn w M I H2).imp fun ⟨s', d', rs', xs'⟩ w' hφ h => ?_
  obtain ⟨⟨i1, i2, i3, i4⟩, hm⟩ := hφ
  have h1 := ledClose (l := l) (m1 := m1) (m2 := m2) (s := s') (d := d') h i2
  have h2 := refClose (p := p) (s := rs') (xs := xs') h1 i3
  exact ⟨(d', xs'), rfl, ⟨⟨i1, i4⟩, hm⟩, Hp.keep h2⟩
end Go.Proofs.YtfemfomgmopibaaGreatDoor
