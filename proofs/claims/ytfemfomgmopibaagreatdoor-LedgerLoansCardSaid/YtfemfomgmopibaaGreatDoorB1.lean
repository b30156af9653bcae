/- The ledger: its keys, its making, what is copied: the walks. -/
import Derived.Test.YtfemfomgmopibaaGreatDoorAsF
import Derived.Test.YtfemfomgmopibaaGreatDoorA4
namespace Go.Proofs.YtfemfomgmopibaaGreatDoor
open Go Go.Proofs Go.Wk
structure Pr where
  loan : Int
  acct : Int
  ctl : Bool
deriving DecidableEq
@[reducible] def prV (p : Pr) : Value := .agg #[.int .u32 p.loan, .int .u8 p.acct, .bool p.ctl]
@[reducible] def iV (n : Int) : Value := .int .i64 n
def eqP (a b : Pr) : Bool := a.loan == b.loan && (a.acct == b.acct && (a.ctl == b.ctl && true))
theorem eqP_iff {a b : Pr} : eqP a b = true ↔ a = b := by
  obtain ⟨x1, x2, x3⟩ := a
  obtain ⟨y1, y2, y3⟩ := b
  simp [eqP]
theorem same_key (k : Key) : Instr.sameBits 10000 (keyV k) (keyV k) = true := by
  show Instr.sameBits (9999 + 1) _ _ = true
  generalize 9999 = d
  simp [Instr.sameBits]
theorem same_pr (p : Pr) : Instr.sameBits 10000 (prV p) (prV p) = true := by
  show Instr.sameBits (9999 + 1) _ _ = true
  generalize 9999 = d
  simp [Instr.sameBits]
theorem keyKeys : Keys Tryz.prog 26 keyV :=
  struct_keys tok (fun k : Key => #[.int .u32 k.loan, .int .i32 k.day, .int .u8 k.kind, .int .u32 k.seq]) (fun _ => rfl) rfl Tryz.stoodInHeld26 (fun a b => ⟨eqK a b, rfl, eqK_iff⟩) same_key
theorem prKeys : Keys Tryz.prog 94 prV :=
  struct_keys tok (fun p : Pr => #[.int .u32 p.loan, .int .u8 p.acct, .bool p.ctl]) (fun _ => rfl) rfl Tryz.stoodInHeld94 (fun a b => ⟨eqP a b, rfl, eqP_iff⟩) same_pr
/-- A line: its entry, of which it is the reversal. -/
structure Ln where
  k : Key
  s : SV
  of : Int
  ls : List Leg
@[reducible] def lnC (x : Ln) : List Value := [.int .u32 x.k.loan, .int .i32 x.k.day, .int .u8 x.k.kind, .int .u32 x.k.seq, .slice x.s.A x.s.n x.s.c, .int .i64 x.of]
def lnsC : List Ln → List Value
  | [] => []
  | x :: r => lnC x ++ lnsC r
theorem lnsC_len : ∀ xs : List Ln, (lnsC xs).length = xs.length * 6
  | [] => rfl
  | x :: r => by simp only [lnsC, List.length_append, List.length_cons, List.length_nil, lnsC_len r]; omega
theorem lnsC_app : ∀ a b : List Ln, lnsC (a ++ b) = lnsC a ++ lnsC b
  | [], _ => rfl
  | x :: a, b => by simp [lnsC, lnsC_app a b]
/-- What the lines' legs read as. -/
def LnF (xs : List Ln) : Fact where
  holds w I := ∀ x, x ∈ xs → (Sl legR (.slice x.s.A x.s.n x.s.c) x.ls).holds w I
  mono := fun h hI hw x hx => (Sl legR _ _).mono (h x hx) hI hw
structure Led where
  lns : List Ln
  live : List (Key × Int)
  sums : List (Pr × Int)
@[reducible] def ledA (l m1 m2 : Nat) (s : SV) (d : Led) : List Asn := [blk l [.slice s.A s.n s.c, .map (some m1), .map (some m2)] 85, row 69 6 (.slice s.A s.n s.c) s.n (lnsC d.lns), mapO m1 keyV iV d.live, mapO m2 prV iV d.sums]
theorem new_ (w : World) (M I : BS) (H : Hp ⟨w, M, I⟩ [] [] w) :
    Ctr Tryz.prog 8 [] w M I (fun a : Nat × Nat × Nat => .pointer (some ⟨a.1, 0, none⟩)) (fun _ => True) (fun a => ledA a.1 a.2.1 a.2.2 ⟨none, 0, 0⟩ ⟨[], [], []⟩) (fun _ => []) := by
  refine Exe.of_ev tok Tryz.call8 Tryz.func8 rfl rfl rfl ?_
  refine makeMap_rule H keyV iV fun m1 w1 H1 => ?_
  refine makeMap_rule H1 prV iV fun m2 w2 H2 => ?_
  refine box_as H2 [.slice none 0 0, .map (some m1), .map (some m2)] rfl fun l w3 H3 => ?_
  have H4 : Hp ⟨w, M, I⟩ [row 69 6 (.slice none 0 0) 0 [], blk l [.slice none 0 0, .map (some m1), .map (some m2)] 85, mapO m2 prV iV [], mapO m1 keyV iV []] [] w3 := Hp.nil H3 69 6
  have H5 : Hp ⟨w, M, I⟩ [blk l [.slice none 0 0, .map (some m1), .map (some m2)] 85, row 69 6 (.slice none 0 0) 0 [], mapO m1 keyV iV [], mapO m2 prV iV []] [] w3 := H4.keep
  exact Exists.intro (l, m1, m2) (And.intro rfl (And.intro trivial H5))
theorem cloneLegs (A : Option Addr) (n c : Nat) (ls : List Leg) (hn : ls.length ≤ 1000000) (w : World) (M I : BS) (hM : ∀ b, ¬ M b) (H : Hp ⟨w, M, I⟩ [] [Sl legR (.slice A n c) ls] w) :
    Ctr Tryz.prog 66 [.slice A n c] w M I (fun a : SV => .slice a.A a.n a.c) (fun _ => True) (fun _ => []) (fun a => [Sl legR (.slice a.A a.n a.c) ls]) := by
  obtain ⟨hl, _, _⟩ := H.sll (A := A) (n := n) (c := c)
  cases A with
  | none =>
    have h0 : n = 0 ∧ c = 0 := by
      obtain ⟨I', _, _, ha, _⟩ := H.ex
      obtain ⟨A', c', e1, _, q2, q3, _⟩ := ha _ List.mem_cons_self
      injection e1 with e1 e2 e3
      have := q3 e1.symm
      omega
    obtain ⟨rfl, rfl⟩ := h0
    refine Exe.of_ev tok Tryz.call66 Tryz.func66 rfl rfl rfl ?_
    exact Exists.intro ⟨none, 0, 0⟩ (And.intro rfl (And.intro trivial (Hp.keep H)))
  | some ad =>
    refine Exe.of_ev tok Tryz.call66 Tryz.func66 rfl rfl rfl ?_
    refine slice_as tok H [] rfl rfl rfl rfl rfl rfl fun g w1 H1 => ?_
    have H2 : Hp ⟨w, M, I⟩ [row 43 2 (.slice (some ⟨g, 0, none⟩) 0 0) 0 []] [Sl legR (.slice (some ad) n c) ls] w1 := H1.toRow 2 0 rfl (by decide)
    refine append_sl (v := .slice (some ⟨g, 0, none⟩) 0 0) (A := some ad) (m := n) (c := c) tok H2 rfl rfl rfl rfl rfl rfl rfl (fun x _ _ => legs_one x) (by show (0 + n) * 16 ≤ _; omega) (by omega) fun A2 c2 news w4 H4 => ?_
    have H4' : Hp ⟨w, M, I⟩ [row 43 2 (.slice A2 (0 + n) c2) (0 + n) news] [Cl legR news ls, Sl legR (.slice (some ad) n c) ls] w4 := H4
    have H5 := H4'.frzRow (v := .slice A2 (0 + n) c2) (xs := ls) legR hM rfl (by decide)
    exact Exists.intro ⟨A2, 0 + n, c2⟩ (And.intro rfl (And.intro trivial (Hp.keep H5)))
theorem lk_put_eq {κ ν : Type} [DecidableEq κ] {k : κ} {v : ν} : ∀ {l : List (κ × ν)}, lk k (putL k v l) = some v
  | [] => by simp [putL, lk]
  | q :: l => by
    unfold putL
    split
    · simp [lk]
    · rename_i h
      unfold lk
      rw [if_neg h]; exact lk_put_eq
theorem lk_put_ne {κ ν : Type} [DecidableEq κ] {k p : κ} {v : ν} (hp : p ≠ k) : ∀ {l : List (κ × ν)}, lk p (putL k v l) = lk p l
  | [] => by simp [putL, lk, Ne.symm hp]
  | q :: l => by
    unfold putL
    split
    · rename_i h
      simp only [lk]
      rw [if_neg (by simpa using Ne.symm hp), if_neg (by rw [h]; exact Ne.symm hp)]
    · simp only [lk]
      split
      · rfl
      · exact lk_put_ne hp
theorem lk_nokey {κ ν : Type} [DecidableEq κ] {p : κ} : ∀ {l : List (κ × ν)}, p ∉ l.map (·.1) → lk p l = none
  | [], _ => rfl
  | q :: l, h => by
    simp only [List.map_cons, List.mem_cons, not_or] at h
    unfold lk
    rw [if_neg (Ne.symm h.1)]
    exact lk_nokey h.2
theorem lk_of_mem {κ ν : Type} [DecidableEq κ] {k : κ} {v : ν} : ∀ {l : List (κ × ν)}, (l.map (·.1)).Nodup → (k, v) ∈ l → lk k l = some v
  | [], _, h => by cases h
  | q :: l, hn, h => by
    simp only [List.map_cons, List.nodup_cons] at hn
    unfold lk
    rcases List.mem_cons.1 h with rfl | h
    · rw [if_pos rfl]
    · rw [if_neg (fun e => hn.1 (by rw [e]; exact List.mem_map_of_mem h)), lk_of_mem hn.2 h]
/-- maps.Copy: whatever the order, what one finds then. -/
theorem copyMap (m2 m3 : Nat) (dst src : List (Pr × Int)) (hnd : (src.map (·.1)).Nodup) (w : World) (M I : BS) (H : Hp ⟨w, M, I⟩ [mapO m2 prV iV dst, mapO m3 prV iV src] [] w) :
    Ctr Tryz.prog 65 [.map (some m2), .map (some m3)] w M I (fun _ : List (Pr × Int) => .tuple #[]) (fun d => ∀ p, lk p d = (lk p src).or (lk p dst)) (fun d => [mapO m2 prV iV d]) (fun _ => []) := by
  refine Exe.of_ev tok Tryz.call65 Tryz.func65 rfl rfl rfl ?_
  refine range_rule (n := m3) tok H rfl fun it w1 H1 => ?_
  have H1 : Hp ⟨w, M, I⟩ [rngO m3 it prV iV src src none, mapO m2 prV iV dst] [] w1 := Hp.keep H1
  refine loop_rule tok (σ := List (Pr × Int) × Option (Pr × Int) × List (Pr × Int)) 65328 (fun _ => [])
    (fun s w' => (∀ q, q ∈ s.1 → q ∈ src) ∧ (s.1.map (·.1)).Nodup ∧ (∀ p, lk p s.2.2 = if p ∈ s.1.map (·.1) then lk p dst else (lk p src).or (lk p dst)) ∧ Hp ⟨w, M, I⟩ [rngO m3 it prV iV src s.1 s.2.1, mapO m2 prV iV s.2.2] [] w') (fun s => s.1.length) (src, none, dst) rfl rfl trivial
    ⟨fun q h => h, hnd, fun p => ?_, H1⟩ ?_
  · simp only
    split
    · rfl
    · rename_i h
      rw [lk_nokey h]; rfl
  rintro ⟨lf, cur, d⟩ j w2 ⟨h1, h2, h3, H2⟩
  simp only at h1 h2 h3 H2
  refine next_rule (n := m3) H2 (fun hl => ?_) fun a p b w3 hl H3 => ?_
  · subst hl
    have hd : ∀ p, lk p d = (lk p src).or (lk p dst) := fun p => by rw [h3 p]; simp
    have H4 : Hp ⟨w, M, I⟩ [mapO m2 prV iV d] [] w2 := Hp.keep H2
    exact Exists.intro d (And.intro rfl (And.intro hd H4))
  · subst hl
    refine entry_rule (n := m3) H3 ?_
    refine alloc_as tok H3 [.int .u32 0, .int .u8 0, .bool false] rfl rfl rfl fun t w4 H4 => ?_
    refine store_as tok H4 [.int .u32 p.1.loan, .int .u8 p.1.acct, .bool p.1.ctl] rfl rfl rfl rfl rfl fun w5 H5 => ?_
    refine load_rule tok H5 (v := prV p.1) rfl ?_
    refine mapUpd_rule (n := m2) (k := p.1) (v := p.2) tok H5 rfl prKeys rfl rfl fun w6 H6 => ?_
    have hnp : p.1 ∉ (a ++ b).map (·.1) := by
      have h := h2
      rw [List.map_append, List.map_cons] at h
      have h := (List.perm_middle.nodup_iff.1 h)
      rw [List.nodup_cons] at h
      rw [List.map_append]; exact h.1
    refine Exists.intro (a ++ b, some p, putL p.1 p.2 d) (And.intro trivial (And.intro ?_ ⟨?_, ?_, ?_, Hp.keep H6⟩))
    · simp only [List.length_append, List.length_cons]; omega
    · intro q hq
      refine h1 q ?_
      rcases List.mem_append.1 hq with hq | hq
      · exact List.mem_append_left _ hq
      · exact List.mem_append_right _ (List.mem_cons_of_mem _ hq)
    · have h := h2
      rw [List.map_append, List.map_cons] at h
      have h := (List.perm_middle.nodup_iff.1 h)
      rw [List.nodup_cons] at h
      rw [List.map_append]; exact h.2
    · intro q
      simp only
      by_cases hq : q = p.1
      · subst hq
        rw [lk_put_eq, if_neg hnp, lk_of_mem (v := p.2) hnd (h1 p (by simp))]; rfl
      · rw [lk_put_ne hq, h3 q]
        have hm : (q ∈ (a ++ p :: b).map (·.1)) ↔ q ∈ (a ++ b).map (·.1) := by
          simp only [List.map_append, List.map_cons, List.mem_append, List.mem_cons]
          constructor
          · rintro (h | h | h)
            · exact .inl h
            · exact absurd h hq
            · exact .inr h
          · rintro (h | h)
            · exact .inl h
            · exact .inr (.inr h)
        simp only [hm]
end Go.Proofs.YtfemfomgmopibaaGreatDoor
