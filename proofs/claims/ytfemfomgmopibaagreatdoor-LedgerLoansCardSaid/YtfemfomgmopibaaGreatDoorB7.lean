/- The ledger: a line; a live entry; the entries of a loan that has none: the walks. -/
import Derived.Test.YtfemfomgmopibaaGreatDoorB6
namespace Go.Wk
theorem Hp.rngBack {B : Base} {S S' : List Asn} {F : List Fact} {w : World} {κ ν : Type} {kf : κ → Value} {vf : ν → Value} {n g : Nat} {l left : List (κ × ν)} {cur : Option (κ × ν)} (H : Hp B S F w) [hp : TakeI S g n kf vf l left cur S'] : Hp B (mapO n kf vf l :: S') F w := by
  refine H.step (A := rngO n g kf vf l left cur) (hp := ⟨hp.perm⟩) rfl rfl rfl (Nat.le_refl _) fun fa ha => ⟨fun _ _ _ => rfl, fun b => b = n, ?_, fun b hb => .inl ((ha.1 b).2 (.inl hb))⟩
  obtain ⟨h1, h0, es, clock, seen, h2, h3, h4, h5, h6, _⟩ := ha
  exact ⟨fun _ => Iff.rfl, es, clock, h2, h4, h5, h6⟩
end Go.Wk
namespace Go.Proofs.YtfemfomgmopibaaGreatDoor
open Go Go.Proofs Go.Wk
def lnZ : List Value := [.int .u32 0, .int .i32 0, .int .u8 0, .int .u32 0, .slice none 0 0, .int .i64 0]
set_option maxRecDepth 20000 in
theorem line_ (l m1 m2 : Nat) (s : SV) (xs : List Ln) (hx : xs.length ≤ 100000) (hsn : s.n = xs.length) (i : Nat) (x : Ln) (hi : xs[i]? = some x) (hl : x.ls.length ≤ 1000) (w : World) (M I : BS) (H : Hp ⟨w, M, I⟩ [blk l [.slice s.A s.n s.c, .map (some m1), .map (some m2)] 85, row 69 6 (.slice s.A s.n s.c) s.n (lnsC xs)] [LnF xs] w) :
    Ctr Tryz.prog 21 [.pointer (some ⟨l, 0, none⟩), .int .i64 (i : Int)] w M I (fun a : SV => .tuple #[.agg #[.int .u32 x.k.loan, .int .i32 x.k.day, .int .u8 x.k.kind, .int .u32 x.k.seq, .slice a.A a.n a.c, .int .i64 x.of], .bool true]) (fun _ => True) (fun _ => [blk l [.slice s.A s.n s.c, .map (some m1), .map (some m2)] 85, row 69 6 (.slice s.A s.n s.c) s.n (lnsC xs)]) (fun a => [Sl legR (.slice a.A a.n a.c) x.ls]) := by
  obtain ⟨hil, _⟩ := List.getElem?_eq_some_iff.1 hi
  obtain ⟨A, n, c⟩ := s
  simp only at hsn H ⊢
  obtain ⟨b, rfl⟩ := H.rowSome (A := A) (n := n) (c := c) (by omega)
  have H' := Hp.lnAt H (xs := xs) (List.mem_of_getElem? hi)
  have i0 : (0 : Int) ≤ (i : Int) := by omega
  have i1 : (i : Int) < n := by omega
  refine Exe.of_ev tok Tryz.call21 Tryz.func21 rfl rfl rfl ?_
  refine alloc_as tok H' [.int .u32 0, .int .i32 0, .int .u8 0, .int .u32 0, .slice none 0 0, .int .i64 0] rfl rfl rfl fun r w1 H1 => ?_
  refine call_rule H1 (fun M I _ h => len__ l m1 m2 ⟨some ⟨b, 0, none⟩, n, c⟩ _ M I h) fun _ w2 _ H2 => ?_
  refine br (fun q => ?_) (fun q => ?_)
  · exfalso; have q : decide ((n : Int) ≤ (i : Int)) = true := q; simp at q; omega
  have H3 : Hp ⟨w, M, I⟩ [blk l [.slice (some ⟨b, 0, none⟩) n c, .map (some m1), .map (some m2)] 85, blk r [.int .u32 0, .int .i32 0, .int .u8 0, .int .u32 0, .slice none 0 0, .int .i64 0] 69, row 69 6 (.slice (some ⟨b, 0, none⟩) n c) n (lnsC xs)] [Sl legR (.slice x.s.A x.s.n x.s.c) x.ls, LnF xs] w2 := H2
  refine draw_rule (A := [blk r [.int .u32 0, .int .i32 0, .int .u8 0, .int .u32 0, .slice none 0 0, .int .i64 0] 69]) tok tdr H3 [0, 1, 2, 3, 4, 5, 6, 7, 8, 9, 10, 11, 12, 13, 14, 15, 16, 17, 18, 19] [0, 1, 3, 7, 0, 31, 63, 127, 255, 0, 512, 1536, 3584, 0, 15872, 32256, 65024, 131071, 262143, 524287] rfl ?_
  refine pass_rule _ (fun w h => load_rule tok h (v := .slice (some ⟨b, 0, none⟩) n c) rfl ⟨rfl, rfl⟩) ?_
  refine pass_rule _ (fun w h => idx_own tok rfl rfl i0 i1 ⟨rfl, rfl⟩) ?_
  refine pass_rule _ (fun w h => row_ld (n := n) (c := c) tok h (v := .agg #[.int .u32 x.k.loan, .int .i32 x.k.day, .int .u8 x.k.kind, .int .u32 x.k.seq, .slice x.s.A x.s.n x.s.c]) (lns_get hi) ⟨rfl, rfl⟩) ?_
  refine imp_rule (fun X wx h => call_rule h (fun M I h0 h => copied x.k x.s.A x.s.n x.s.c x.ls (by omega) _ M I (h0 rfl) h) fun sv w1 _ H1 => imp_done H1 ?_)
  refine pass_rule _ (fun w h => load_rule tok h (v := .slice (some ⟨b, 0, none⟩) n c) rfl ⟨rfl, rfl⟩) ?_
  refine pass_rule _ (fun w h => idx_own tok rfl rfl i0 i1 ⟨rfl, rfl⟩) ?_
  refine pass_rule _ (fun w h => row_ld (n := n) (c := c) tok h (v := .int .i64 x.of) (lns_of hi) ⟨rfl, rfl⟩) ?_
  refine imp_rule (fun X wx h => store_as tok h [.int .u32 x.k.loan, .int .i32 x.k.day, .int .u8 x.k.kind, .int .u32 x.k.seq, .slice sv.A sv.n sv.c, .int .i64 x.of] rfl rfl rfl rfl rfl fun w1 H1 => imp_done H1 ?_)
  refine done_rule fun w5 H5 => ?_
  refine Exists.intro ⟨r, 0, none⟩ (Exists.intro (.agg #[.int .u32 x.k.loan, .int .i32 x.k.day, .int .u8 x.k.kind, .int .u32 x.k.seq, .slice sv.A sv.n sv.c, .int .i64 x.of]) (And.intro rfl (And.intro (Hp.ld (T := tb) tok H5 rfl) ?_)))
  exact Exists.intro sv (And.intro rfl (And.intro trivial (Hp.keep H5)))
set_option maxRecDepth 20000 in
theorem live_ (l m1 m2 : Nat) (s : SV) (d : Led) (hx : d.lns.length ≤ 100000) (hsn : s.n = d.lns.length) (k : Key) (i : Nat) (x : Ln) (hlk : lk k d.live = some (i : Int)) (hi : d.lns[i]? = some x) (hl : x.ls.length ≤ 1000) (w : World) (M I : BS)
    (H : Hp ⟨w, M, I⟩ [blk l [.slice s.A s.n s.c, .map (some m1), .map (some m2)] 85, row 69 6 (.slice s.A s.n s.c) s.n (lnsC d.lns), mapO m1 keyV iV d.live] [LnF d.lns] w) :
    Ctr Tryz.prog 23 [.pointer (some ⟨l, 0, none⟩), keyV k] w M I (fun a : SV => .tuple #[.agg #[.int .u32 x.k.loan, .int .i32 x.k.day, .int .u8 x.k.kind, .int .u32 x.k.seq, .slice a.A a.n a.c], .bool true]) (fun _ => True)
      (fun _ => [blk l [.slice s.A s.n s.c, .map (some m1), .map (some m2)] 85, row 69 6 (.slice s.A s.n s.c) s.n (lnsC d.lns), mapO m1 keyV iV d.live]) (fun a => [Sl legR (.slice a.A a.n a.c) x.ls]) := by
  obtain ⟨hil, _⟩ := List.getElem?_eq_some_iff.1 hi
  obtain ⟨A, n, c⟩ := s
  simp only at hsn H ⊢
  obtain ⟨b, rfl⟩ := H.rowSome (A := A) (n := n) (c := c) (by omega)
  have H' := Hp.lnAt H (xs := d.lns) (List.mem_of_getElem? hi)
  have i0 : (0 : Int) ≤ (i : Int) := by omega
  have i1 : (i : Int) < n := by omega
  refine Exe.of_ev tok Tryz.call23 Tryz.func23 rfl rfl rfl ?_
  refine box_as H' (keyC k) rfl fun p w1 H1 => ?_
  refine alloc_as tok H1 zeroC rfl rfl rfl fun r w2 H2 => ?_
  refine draw_rule (A := []) tok tdr H2 [0, 1, 2, 3, 4, 5, 6, 7, 8, 9, 10] [0, 1, 3, 7, 0, 31, 63, 127, 127, 255, 1023] rfl ?_
  refine pass_rule _ (fun w h => load_rule tok h (v := .map (some m1)) rfl ⟨rfl, rfl⟩) ?_
  refine pass_rule _ (fun w h => load_rule tok h (v := keyV k) rfl ⟨rfl, rfl⟩) ?_
  refine pass_rule (.tuple #[.int .i64 (i : Int), .bool true]) (fun w h => lookup_ok_rule (n := m1) tok h rfl rfl rfl keyKeys rfl (by rw [hlk]; rfl) ⟨rfl, rfl⟩) ?_
  refine done_rule fun w3 H3 => ?_
  refine load_rule tok H3 (v := .slice (some ⟨b, 0, none⟩) n c) rfl ?_
  refine idx_own tok rfl rfl i0 i1 ?_
  refine row_ld (n := n) (c := c) tok H3 (v := .agg #[.int .u32 x.k.loan, .int .i32 x.k.day, .int .u8 x.k.kind, .int .u32 x.k.seq, .slice x.s.A x.s.n x.s.c]) (lns_get hi) ?_
  refine call_rule H3 (fun M I h0 h => copied x.k x.s.A x.s.n x.s.c x.ls (by omega) _ M I (h0 rfl) h) fun sv w4 _ H4 => ?_
  refine store_as tok H4 (entC x.k sv.A sv.n sv.c) rfl rfl rfl rfl rfl fun w5 H5 => ?_
  refine Exists.intro ⟨r, 0, none⟩ (Exists.intro (.agg #[.int .u32 x.k.loan, .int .i32 x.k.day, .int .u8 x.k.kind, .int .u32 x.k.seq, .slice sv.A sv.n sv.c]) (And.intro rfl (And.intro (Hp.ld (T := tb) tok H5 rfl) ?_)))
  exact Exists.intro sv (And.intro rfl (And.intro trivial (Hp.keep H5)))
/-! A loan that has no live entry -/
theorem insNilE : CB 96 [.slice none 0 0, .int .i64 0, .int .i64 0, .func (.func 45) #[] #[]] (.tuple #[]) := by
  intro w M I H
  refine Exe.of_ev tok Tryz.call96 Tryz.func96 rfl rfl rfl ?_
  refine loop_rule tok (σ := Unit) 9007199254737664 (fun s => [(8, .int .i64 1)]) (fun _ w' => Hp ⟨w, M, I⟩ [] [] w') (fun _ => 0) () rfl rfl ⟨rfl, trivial⟩ H ?_
  rintro ⟨⟩ j0 w1 H1
  exact Exists.intro () (And.intro rfl (And.intro trivial H1))
theorem pdqNilE (z : Int) : CB 72 [.slice none 0 0, .int .i64 0, .int .i64 0, .int .i64 z, .func (.func 45) #[] #[]] (.tuple #[]) := by
  intro w M I H
  refine Exe.of_ev tok Tryz.call72 Tryz.func72 rfl rfl rfl ?_
  refine loop_rule tok (σ := Unit) 356811923176489970264571492362373784095685646 (fun _ => [(1, .int .i64 0), (2, .int .i64 0)]) (fun _ w' => Hp ⟨w, M, I⟩ [] [] w') (fun _ => 0) () rfl rfl ⟨rfl, rfl, trivial⟩ H ?_
  rintro ⟨⟩ j w1 H1
  refine call_rule H1 (fun M I _ h => insNilE _ M I h) fun l w2 hφ H2 => ?_
  exact Exists.intro () (And.intro rfl (And.intro trivial H2))
theorem sortNilE : CB 44 [.slice none 0 0, .func (.func 45) #[] #[]] (.tuple #[]) := by
  intro w M I H
  refine Exe.of_ev tok Tryz.call44 Tryz.func44 rfl rfl rfl ?_
  refine call_rule H (fun M I _ h => len_ 0 (by omega) (by omega) _ M I h) fun z w1 _ H1 => ?_
  refine call_rule H1 (fun M I _ h => pdqNilE z _ M I h) fun l w2 hφ H2 => ?_
  exact Exists.intro () (And.intro rfl (And.intro trivial H2))
theorem loanNone (l m1 m2 : Nat) (s : SV) (m : List (Key × Int)) (loan : Int) (hno : ∀ q, q ∈ m → q.1.loan ≠ loan) (w : World) (M I : BS)
    (H : Hp ⟨w, M, I⟩ [blk l [.slice s.A s.n s.c, .map (some m1), .map (some m2)] 85, mapO m1 keyV iV m] [] w) :
    Ctr Tryz.prog 19 [.pointer (some ⟨l, 0, none⟩), .int .u32 loan] w M I (fun _ : Unit => .slice none 0 0) (fun _ => True) (fun _ => [blk l [.slice s.A s.n s.c, .map (some m1), .map (some m2)] 85, mapO m1 keyV iV m]) (fun _ => []) := by
  refine Exe.of_ev tok Tryz.call19 Tryz.func19 rfl rfl rfl ?_
  refine load_rule tok H (v := .map (some m1)) rfl ?_
  refine range_rule (n := m1) tok H rfl fun it w1 H1 => ?_
  have H1 : Hp ⟨w, M, I⟩ [rngO m1 it keyV iV m m none, blk l [.slice s.A s.n s.c, .map (some m1), .map (some m2)] 85] [] w1 := Hp.keep H1
  refine loop_rule tok (σ := List (Key × Int) × Option (Key × Int)) 68719444192 (fun _ => [(5, .slice none 0 0)])
    (fun s' w' => (∀ q, q ∈ s'.1 → q ∈ m) ∧ Hp ⟨w, M, I⟩ [rngO m1 it keyV iV m s'.1 s'.2, blk l [.slice s.A s.n s.c, .map (some m1), .map (some m2)] 85] [] w') (fun s' => s'.1.length) (m, none) rfl rfl ⟨rfl, trivial⟩
    ⟨fun q h => h, H1⟩ ?_
  rintro ⟨lf, cur⟩ j w2 ⟨h1, H2⟩
  simp only at h1 H2
  refine next_rule (n := m1) H2 (fun hl => ?_) fun a p b w3 hl H3 => ?_
  · have H3 : Hp ⟨w, M, I⟩ [mapO m1 keyV iV m, blk l [.slice s.A s.n s.c, .map (some m1), .map (some m2)] 85] [] w2 := H2.rngBack (n := m1) (g := it)
    refine call_rule H3 (fun M I _ h => sortNilE _ M I h) fun _ w4 _ H4 => ?_
    exact Exists.intro () (And.intro rfl (And.intro trivial (Hp.keep H4)))
  · subst hl
    have hp := hno p (h1 p (by simp))
    refine entry_rule (n := m1) H3 ?_
    refine alloc_as tok H3 [.int .u32 0, .int .i32 0, .int .u8 0, .int .u32 0] rfl rfl rfl fun t w4 H4 => ?_
    refine store_as tok H4 (keyC p.1) rfl rfl rfl rfl rfl fun w5 H5 => ?_
    refine load_rule tok H5 (v := .int .u32 p.1.loan) rfl ?_
    refine br (fun q => ?_) (fun _ => ?_)
    · exfalso
      have q : (p.1.loan == loan) = true := q
      exact hp (by simpa using q)
    refine Exists.intro (a ++ b, some p) (And.intro ⟨rfl, trivial⟩ (And.intro ?_ ⟨?_, Hp.keep H5⟩))
    · simp only [List.length_append, List.length_cons]; omega
    · intro q hq
      refine h1 q ?_
      rcases List.mem_append.1 hq with hq | hq
      · exact List.mem_append_left _ hq
      · exact List.mem_append_right _ (List.mem_cons_of_mem _ hq)
end Go.Proofs.YtfemfomgmopibaaGreatDoor
