/- An order is read of words: the walk. Printed by gen43.py. -/
import Derived.Test.YtgbmambkgcjhfaaGreatDoorD42
set_option linter.unusedVariables false
namespace Go.Wk
section
variable {P : Program} {T : Tab} {K : Value → World → Prop} {w : World} {B : Base} {S S1 S2 : List Asn} {F : List Fact}
/-- append that leaves something: its row has a block. -/
theorem append_some (hT : T.Ok P) (H : Hp B S F w) {e sz n m c b : Nat} {v : Value} {cs news : List Value} {t t0 ty : TypeId} {it : TypeInfo} {de : TD} {z : Value} [h1 : TakeR S v e sz n cs S1] [h2 : TakeB S1 b news t0 S2]
    {cst : List Bool} (ht : T t = some ⟨.slice e, it⟩) (he : T e = some de) (hz : de.info.zero = some z) (hzs : Nat.beq z.cells.size sz = true) (hsz : Nat.beq de.info.size sz = true) (hp : Nat.ble 1 sz = true) (hl : Nat.beq news.length (m * sz) = true) (ho : allOne news = true)
    (hb : (n + m) * de.info.bytes ≤ 140737488355328) (hm : n + m ≤ 140737488355328) (hnm : n + m ≠ 0)
    (k : ∀ g c w', Hp B (row e sz (.slice (some ⟨g, 0, none⟩) (n + m) c) (n + m) (cs ++ news) :: S2) F w' → K (.slice (some ⟨g, 0, none⟩) (n + m) c) w') : BuiltinK P K w .append [t, t] ty cst [v, .slice (some ⟨b, 0, none⟩) m c] :=
  append_rule hT H ht he hz hzs hsz hp hl ho hb hm fun A c w' H' => by
    obtain ⟨g, rfl⟩ := H'.rowSome (A := A) (n := n + m) (c := c) hnm
    exact k g c w' H'
end
end Go.Wk
namespace Go.Proofs.YtgbmambkgcjhfaaGreatDoor
open Go Go.Proofs Go.Wk Go.Pl
/-- An event's kind, of its word. -/
def odKind (s : ByteArray) : Int := if eqS (kindName 4) s = true then 4 else if eqS (kindName 5) s = true then 5 else if eqS (kindName 6) s = true then 6 else if eqS (kindName 7) s = true then 7 else 0
theorem odKind_at (s : ByteArray) (k : Nat) (h1 : 4 ≤ k) (h2 : k ≤ 7) (hq : eqS (kindName (k : Int)) s = true) (hno : ∀ j : Nat, 4 ≤ j → j < k → eqS (kindName (j : Int)) s = false) : odKind s = (k : Int) := by
  have e : k = 4 ∨ k = 5 ∨ k = 6 ∨ k = 7 := by omega
  unfold odKind
  rcases e with e | e | e | e <;> subst e
  · have hq : eqS (kindName 4) s = true := hq
    rw [if_pos hq]; rfl
  · have hq : eqS (kindName 5) s = true := hq
    have n4 : ¬ eqS (kindName 4) s = true := by rw [show eqS (kindName 4) s = false from hno 4 (by decide) (by decide)]; simp
    rw [if_neg n4, if_pos hq]; rfl
  · have hq : eqS (kindName 6) s = true := hq
    have n4 : ¬ eqS (kindName 4) s = true := by rw [show eqS (kindName 4) s = false from hno 4 (by decide) (by decide)]; simp
    have n5 : ¬ eqS (kindName 5) s = true := by rw [show eqS (kindName 5) s = false from hno 5 (by decide) (by decide)]; simp
    rw [if_neg n4, if_neg n5, if_pos hq]; rfl
  · have hq : eqS (kindName 7) s = true := hq
    have n4 : ¬ eqS (kindName 4) s = true := by rw [show eqS (kindName 4) s = false from hno 4 (by decide) (by decide)]; simp
    have n5 : ¬ eqS (kindName 5) s = true := by rw [show eqS (kindName 5) s = false from hno 5 (by decide) (by decide)]; simp
    have n6 : ¬ eqS (kindName 6) s = true := by rw [show eqS (kindName 6) s = false from hno 6 (by decide) (by decide)]; simp
    rw [if_neg n4, if_neg n5, if_neg n6, if_pos hq]; rfl
theorem odKind_no (s : ByteArray) (hno : ∀ j : Nat, 4 ≤ j → j < 8 → eqS (kindName (j : Int)) s = false) : odKind s = 0 := by
  unfold odKind
  have n4 : ¬ eqS (kindName 4) s = true := by rw [show eqS (kindName 4) s = false from hno 4 (by decide) (by decide)]; simp
  have n5 : ¬ eqS (kindName 5) s = true := by rw [show eqS (kindName 5) s = false from hno 5 (by decide) (by decide)]; simp
  have n6 : ¬ eqS (kindName 6) s = true := by rw [show eqS (kindName 6) s = false from hno 6 (by decide) (by decide)]; simp
  have n7 : ¬ eqS (kindName 7) s = true := by rw [show eqS (kindName 7) s = false from hno 7 (by decide) (by decide)]; simp
  rw [if_neg n4, if_neg n5, if_neg n6, if_neg n7]
theorem odKind_in (s : ByteArray) : inK .u8 (odKind s) := by
  unfold odKind
  split
  · exact ⟨by decide, by decide⟩
  · split
    · exact ⟨by decide, by decide⟩
    · split
      · exact ⟨by decide, by decide⟩
      · split <;> exact ⟨by decide, by decide⟩
theorem kdS (k : Int) : kindName k = strOf (bsL (kindName k)) := (strOf_of _).symm
theorem odKind_of {k : Int} (h : 4 ≤ k ∧ k ≤ 7) : odKind (strOf (bsL (kindName k))) = k := by
  have e := odKind_at (strOf (bsL (kindName k))) k.toNat (by omega) (by omega) (by rw [show ((k.toNat : Nat) : Int) = k by omega]; rw [← kdS]; exact eqS_self _) (fun j a b => by
    rw [kdS (j : Int), eqS_strOf]
    exact decide_eq_false fun h' => by have := kind_inj (a := (j : Int)) (by omega) h h'; omega)
  rw [e]; omega
theorem orderKind (s : ByteArray) : CB 54 [.string s] (.int .u8 (odKind s)) := by
  intro w M I H
  refine Exe.of_ev tok Tryz.call54 Tryz.func54 rfl rfl rfl ?_
  refine loop_rule tok (σ := Nat) 8188 (fun k => [(3, .int .u8 (k : Int))]) (fun k w' => 4 ≤ k ∧ k ≤ 8 ∧ (∀ j : Nat, 4 ≤ j → j < k → eqS (kindName (j : Int)) s = false) ∧ Hp ⟨w, M, I⟩ [] [] w') (fun k => 8 - k) 4 rfl rfl ⟨rfl, trivial⟩ ⟨by decide, by decide, (fun j a b => by omega), H⟩ ?_
  intro k j w1 hW
  have h1 := hW.1
  have h2 := hW.2.1
  have h3 := hW.2.2.1
  have H1 := hW.2.2.2
  refine brd (fun hle => ?_) (fun hgt => ?_)
  · have ew : IntKind.u8.wrap ((k : Int) + 1) = ((k + 1 : Nat) : Int) := wrap_id ⟨by show (0 : Int) ≤ _; omega, by show _ ≤ (255 : Int); omega⟩
    refine call_rule H1 (fun M I _ h => kind (k : Int) (by omega) (by omega) _ M I h) fun _ w2 _ H2 => ?_
    refine br (fun q => ?_) (fun q => ?_)
    · have q : eqS (kindName (k : Int)) s = true := q
      exact Exists.intro () (And.intro (congrArg (Value.int .u8) (odKind_at s k h1 (by omega) q h3).symm) (And.intro trivial (Hp.keep H2)))
    · have q : eqS (kindName (k : Int)) s = false := q
      refine Exists.intro (k + 1) (And.intro ⟨congrArg (Value.int .u8) ew, trivial⟩ (And.intro (by show 8 - (k + 1) < 8 - k; omega) ⟨by omega, by omega, fun j a b => ?_, Hp.keep H2⟩))
      by_cases e : j = k
      · rw [e]; exact q
      · exact h3 j a (by omega)
  · have e : k = 8 := by omega
    refine Exists.intro () (And.intro (congrArg (Value.int .u8) (odKind_no s fun j a b => h3 j a (by omega)).symm) (And.intro trivial H1))
/-- A number of 32 bits is read, or not. -/
structure UPRd (l : List UInt8) (v : Int) : Prop where
  ok : ∀ u, Lib.parseUintB 32 l = .ok u → v = (u : Int)
  nil : l = [] → v = 0
theorem parseUP (l : List UInt8) (hs : l.length ≤ 281474976710656) (w : World) (M I : BS) (H : Hp ⟨w, M, I⟩ [] [LibF] w) :
    Ctr Tryz.prog 52 [.string (strOf l), .int .i64 10, .int .i64 32] w M I auV (fun a => UPRd l a.1) (fun _ => []) (fun _ => []) := by
  refine (parseU32 (strOf l) (by rw [strOf_size]; exact hs) w M I H).imp fun a w' hφ hh => ?_
  rw [strOf_data] at hφ
  have hu : UPRd l ((a.1 : Nat) : Int) := by
    constructor
    · intro u hu
      rw [hu] at hφ
      have e : a = (u, none) := hφ
      rw [e]
    · intro hl
      subst hl
      cases h : Lib.parseUintB 32 [] with
      | ok u => cases h
      | range => cases h
      | _ => rw [h] at hφ; exact congrArg Int.ofNat hφ.1
  cases a with
  | mk v o =>
    cases o with
    | none => exact ⟨((v : Int), none), rfl, hu, hh⟩
    | some N => exact ⟨((v : Int), some (226, .pointer (some ⟨N, 0, none⟩))), rfl, hu, hh⟩
theorem UPRd.of {n v : Int} (h0 : 0 ≤ n) (h1 : n < 4294967296) (h : UPRd (Lib.itoa n) v) : v = n := by
  have := h.ok n.toNat (by rw [itoa_nat h0, u32_num _ (by omega)])
  omega
theorem splitL (l : List UInt8) (hs : l.length < 4294967281) (n : Nat) (hn : Lib.count l [32] = n) (w : World) (M I : BS) (H : Hp ⟨w, M, I⟩ [] [LibF] w) :
    Ctr Tryz.prog 51 [.string (strOf l), .string ⟨#[32]⟩] w M I (fun g : Nat => .slice (some ⟨g, 0, none⟩) (n + 1) (n + 1)) (fun _ => True) (fun g => [blk g ((Lib.splitK [32] 0 (Lib.count l [32]) l).map fun x => Value.string (strOf x)) 9]) (fun _ => []) := by
  have hd : Lib.countB (strOf l) ⟨#[32]⟩ = n := by
    show Lib.count (strOf l).data.toList [32] = n
    rw [strOf_data]; exact hn
  have hb : (Lib.splitB ⟨#[32]⟩ 0 n (strOf l)).map Value.string = (Lib.splitK [32] 0 (Lib.count l [32]) l).map fun x => Value.string (strOf x) := by
    have e := Lib.splitB_data ⟨#[32]⟩ 0 n (strOf l)
    rw [strOf_data] at e
    have e4 := congrArg (List.map fun x => Value.string (strOf x)) e
    rw [List.map_map] at e4
    have e5 : ((fun x => Value.string (strOf x)) ∘ fun x : ByteArray => x.data.toList) = Value.string := by funext x; exact congrArg Value.string (strOf_of x)
    rw [e5] at e4
    rw [e4, hn]
  have hc := splitS (strOf l) ⟨#[32]⟩ (by rw [strOf_size]; exact hs) (by decide) w M I H
  rw [hd, hb] at hc
  exact hc
theorem split_len (l : List UInt8) : (Lib.splitK [32] 0 (Lib.count l [32]) l).length = Lib.count l [32] + 1 := by
  have e := Lib.splitB_data ⟨#[32]⟩ 0 (Lib.count l [32]) (strOf l)
  have e2 := Lib.splitB_all ⟨#[32]⟩ (by decide) 0 (Lib.count l [32]) (strOf l) (by show Lib.count (strOf l).data.toList [32] = _; rw [strOf_data])
  rw [strOf_data] at e
  have e3 := congrArg List.length e
  rw [List.length_map, e2] at e3
  exact e3.symm
/-- The first five words, and what is behind them. -/
structure Rd5 (l : List UInt8) (w0 w1 w2 w3 w4 : List UInt8) (r : List (List UInt8)) : Prop where
  all : Lib.splitK [32] 0 (Lib.count l [32]) l ++ [[], [], [], []] = w0 :: w1 :: w2 :: w3 :: w4 :: r
theorem rd5 (l : List UInt8) : ∃ w0 w1 w2 w3 w4 r, Rd5 l w0 w1 w2 w3 w4 r := by
  have h := split_len l
  match hq : Lib.splitK [32] 0 (Lib.count l [32]) l, h with
  | [], h => simp at h
  | [a], _ => exact ⟨a, [], [], [], [], [], ⟨by rw [hq]; rfl⟩⟩
  | [a, b], _ => exact ⟨a, b, [], [], [], [[]], ⟨by rw [hq]; rfl⟩⟩
  | [a, b, c], _ => exact ⟨a, b, c, [], [], [[], []], ⟨by rw [hq]; rfl⟩⟩
  | [a, b, c, d], _ => exact ⟨a, b, c, d, [], [[], [], []], ⟨by rw [hq]; rfl⟩⟩
  | a :: b :: c :: d :: e :: r, _ => exact ⟨a, b, c, d, e, r ++ [[], [], [], []], ⟨by rw [hq]; rfl⟩⟩
theorem Rd5.le {l w0 w1 w2 w3 w4 : List UInt8} {r : List (List UInt8)} (h : Rd5 l w0 w1 w2 w3 w4 r) : w0.length ≤ l.length ∧ w1.length ≤ l.length ∧ w2.length ≤ l.length ∧ w3.length ≤ l.length ∧ w4.length ≤ l.length := by
  have hx : ∀ x, x ∈ w0 :: w1 :: w2 :: w3 :: w4 :: r → x.length ≤ l.length := fun x hx => by
    rw [← h.all] at hx
    rcases List.mem_append.1 hx with hx | hx
    · exact splitK_le _ _ _ _ hx
    · simp only [List.mem_cons, List.not_mem_nil, or_false, or_self] at hx
      rw [hx]; exact Nat.zero_le _
  exact ⟨hx _ (by simp), hx _ (by simp), hx _ (by simp), hx _ (by simp), hx _ (by simp)⟩
/-- What is read is an order's words, or there is none. -/
def OdRd (l : List UInt8) (a : Od × Er) : Prop :=
  (a.2 = none ∧ odB a.1 = true ∧ OdIn a.1 ∧ OdT a.1 (strOf l)) ∨ (a.2 = erN 15 ∧ a.1 = od0 ∧ ∀ p, odB p = true → OdIn p → ¬ OdT p (strOf l))
@[reducible] def oeV (a : Od × Er) : Value := .tuple #[odV a.1, erV a.2]
theorem OdT.split {p : Od} {l : List UInt8} (hp : odB p = true) (ip : OdIn p) (h : OdT p (strOf l)) : OdW p (Lib.splitK [32] 0 (Lib.count l [32]) l) ∧ l = Lib.join (Lib.splitK [32] 0 (Lib.count l [32]) l) [32] := by
  obtain ⟨ws, hw, e⟩ := h
  have e := strOf_inj e
  have hs := hw.split hp ip
  rw [← e] at hs
  rw [hs]
  exact ⟨hw, e⟩
section
variable {l w0 w1 w2 w3 w4 : List UInt8} {r : List (List UInt8)} {p : Od} {a1 a2 : Int}
theorem Rd5.step (R : Rd5 l w0 w1 w2 w3 w4 r) (h1 : UPRd w1 a1) (h0 : w0 = wStep) (hp : odB p = true) (ip : OdIn p) (h : OdT p (strOf l)) : (⟨4, IntKind.u32.wrap a1, tm0, ev0⟩ : Od) = p := by
  obtain ⟨hw, _⟩ := h.split hp ip
  have ha := R.all
  rcases hw with ⟨k, y, m, d, hd, hn, e⟩ | ⟨k, y, m, d, hd, hn, e⟩ | ⟨k, e⟩ | ⟨k, e⟩ <;> rw [e] at ha
  · injection ha with e0 _; rw [h0] at e0; exact absurd e0 (by decide)
  · injection ha with e0 _; rw [h0] at e0
    rcases od_cases hp with ⟨k', ht, _⟩ | ⟨k', he, _⟩ | ⟨k', _, _⟩ | ⟨k', _, _, _⟩ <;> try (exfalso; omega)
    exact absurd e0 (kind_sp _ (evB_iff.1 he).kind).2.2.2.2
  · injection ha with e0 _; rw [h0] at e0; exact absurd e0 (by decide)
  · injection ha with e0 ha
    injection ha with e1 _
    have z := h1.nil e1.symm
    rcases od_cases hp with ⟨k', ht, _⟩ | ⟨k', he, _⟩ | ⟨k', _, _⟩ | ⟨k', c1, c2, c3⟩ <;> try (exfalso; omega)
    exact od_ext k.symm (by rw [c3, z]; rfl) c1.symm c2.symm
theorem trim_join (a b : List UInt8) : Lib.trimPrefix (a ++ b) a = b := by
  unfold Lib.trimPrefix Lib.hasPrefix
  rw [if_pos (by simp), List.drop_left]
theorem Rd5.board (R : Rd5 l w0 w1 w2 w3 w4 r) (h1 : UPRd w1 a1) (h0 : w0 = wBoard) (hp : odB p = true) (ip : OdIn p) (h : OdT p (strOf l)) {t : Tm × Er} (ht : TmRd (Lib.trimPrefix l (wBoard ++ [32] ++ w1 ++ [32])) t) : (⟨1, IntKind.u32.wrap a1, t.1, ev0⟩ : Od) = p := by
  obtain ⟨hw, hj⟩ := h.split hp ip
  have ha := R.all
  have hl : 0 ≤ p.loan ∧ p.loan ≤ 4294967295 := ip.loan
  rcases hw with ⟨k, y, m, d, hd, hn, e⟩ | ⟨k, y, m, d, hd, hn, e⟩ | ⟨k, e⟩ | ⟨k, e⟩ <;> rw [e] at ha
  · rw [e] at hj
    injection ha with e0 ha
    injection ha with e1 _
    rw [← e1] at h1 ht
    have z := h1.of hl.1 (by omega)
    rcases od_cases hp with ⟨k', hb, hv⟩ | ⟨k', he, _⟩ | ⟨k', _, _⟩ | ⟨k', c1, c2, c3⟩ <;> try (exfalso; omega)
    have ej : l = (wBoard ++ [32] ++ Lib.itoa p.loan ++ [32]) ++ Lib.join (tmWords p.tm (datL y m d)) [32] := by
      rw [hj]
      unfold tmWords
      rw [join_cons, join_cons]
      simp only [List.append_assoc, List.cons_append, List.nil_append]
    rw [ej, trim_join] at ht
    have hT : TmT p.tm (strOf (Lib.join (tmWords p.tm (datL y m d)) [32])) := ⟨y, m, d, hd, hn, rfl⟩
    have et : t.1 = p.tm := by
      rcases ht with ⟨_, f2, f3, f4⟩ | ⟨_, _, f3⟩
      · exact TmT.inj f2 f3.parts.1 (tmB_iff.1 hb) ip.tm.parts.1 f4 hT
      · exact absurd hT (f3 _ (tmB_iff.1 hb) ip.tm)
    exact od_ext k.symm (by show IntKind.u32.wrap a1 = p.loan; rw [z]; exact wrap_id ip.loan) et hv.symm
  · injection ha with e0 _; rw [h0] at e0
    rcases od_cases hp with ⟨k', ht, _⟩ | ⟨k', he, _⟩ | ⟨k', _, _⟩ | ⟨k', _, _, _⟩ <;> try (exfalso; omega)
    exact absurd e0 (kind_sp _ (evB_iff.1 he).kind).2.2.1
  · injection ha with e0 _; rw [h0] at e0; exact absurd e0 (by decide)
  · injection ha with e0 _; rw [h0] at e0; exact absurd e0 (by decide)
theorem Rd5.rev (R : Rd5 l w0 w1 w2 w3 w4 r) (h1 : UPRd w1 a1) (h2 : UPRd w2 a2) (h0 : w0 = wRev) (hp : odB p = true) (ip : OdIn p) (h : OdT p (strOf l)) : (⟨3, IntKind.u32.wrap a1, tm0, ⟨IntKind.u32.wrap a2, 0, 0, 0⟩⟩ : Od) = p := by
  obtain ⟨hw, _⟩ := h.split hp ip
  have ha := R.all
  have hl : 0 ≤ p.loan ∧ p.loan ≤ 4294967295 := ip.loan
  have hs : 0 ≤ p.ev.seq ∧ p.ev.seq ≤ 4294967295 := ip.ev.seq
  rcases hw with ⟨k, y, m, d, hd, hn, e⟩ | ⟨k, y, m, d, hd, hn, e⟩ | ⟨k, e⟩ | ⟨k, e⟩ <;> rw [e] at ha
  · injection ha with e0 _; rw [h0] at e0; exact absurd e0 (by decide)
  · injection ha with e0 _; rw [h0] at e0
    rcases od_cases hp with ⟨k', ht, _⟩ | ⟨k', he, _⟩ | ⟨k', _, _⟩ | ⟨k', _, _, _⟩ <;> try (exfalso; omega)
    exact absurd e0 (kind_sp _ (evB_iff.1 he).kind).2.2.2.1
  · injection ha with e0 ha
    injection ha with e1 ha
    injection ha with e2 _
    rw [← e1] at h1
    rw [← e2] at h2
    have z := h1.of hl.1 (by omega)
    have z2 := h2.of hs.1 (by omega)
    rcases od_cases hp with ⟨k', ht, _⟩ | ⟨k', he, _⟩ | ⟨k', c1, c2⟩ | ⟨k', c1, c2, c3⟩ <;> try (exfalso; omega)
    refine od_ext k.symm (by show IntKind.u32.wrap a1 = p.loan; rw [z]; exact wrap_id ip.loan) c1.symm ?_
    show (⟨IntKind.u32.wrap a2, 0, 0, 0⟩ : Ev) = p.ev
    rw [z2, wrap_id ip.ev.seq]; exact c2.symm
  · injection ha with e0 _; rw [h0] at e0; exact absurd e0 (by decide)
theorem Rd5.take (R : Rd5 l w0 w1 w2 w3 w4 r) (h1 : UPRd w1 a1) (h2 : UPRd w2 a2) (n1 : w0 ≠ wStep) (n2 : w0 ≠ wBoard) (n3 : w0 ≠ wRev) {d4 c5 : Int × Er} (hd4 : DayRd (strOf w3) d4) (hc5 : CoinRd w4 c5) (hp : odB p = true) (ip : OdIn p) (h : OdT p (strOf l)) : (⟨2, IntKind.u32.wrap a1, tm0, ⟨IntKind.u32.wrap a2, d4.1, odKind (strOf w0), c5.1⟩⟩ : Od) = p := by
  obtain ⟨hw, _⟩ := h.split hp ip
  have ha := R.all
  have hl : 0 ≤ p.loan ∧ p.loan ≤ 4294967295 := ip.loan
  have hs : 0 ≤ p.ev.seq ∧ p.ev.seq ≤ 4294967295 := ip.ev.seq
  rcases hw with ⟨k, y, m, d, hd, hn, e⟩ | ⟨k, y, m, d, hd, hn, e⟩ | ⟨k, e⟩ | ⟨k, e⟩ <;> rw [e] at ha
  · injection ha with e0 _; exact absurd e0.symm n2
  · unfold odW2 at ha
    injection ha with e0 ha
    injection ha with e1 ha
    injection ha with e2 ha
    injection ha with e3 ha
    rw [← e1] at h1
    rw [← e2] at h2
    have z := h1.of hl.1 (by omega)
    have z2 := h2.of hs.1 (by omega)
    rw [← e3] at hd4
    have z3 := DayRd.of ⟨y, m, d, hd, hn, rfl⟩ hd4
    rcases od_cases hp with ⟨k', ht, _⟩ | ⟨k', he, hv⟩ | ⟨k', c1, c2⟩ | ⟨k', c1, c2, c3⟩ <;> try (exfalso; omega)
    have ok := evB_iff.1 he
    have hk := odKind_of ok.kind
    rw [e0] at hk
    have ham := ok.amt
    have z4 : c5.1 = p.ev.amt := by
      by_cases h7 : p.ev.kind = 7
      · rw [if_pos h7] at ha
        injection ha with e4 _
        rw [ok.off h7]
        rcases hc5 with ⟨_, f2, _⟩ | ⟨_, f2, _⟩
        · rw [← e4] at f2
          have := congrArg List.length f2
          unfold coinL at this
          simp at this
        · exact f2
      · rw [if_neg h7] at ha
        injection ha with e4 _
        rw [← e4] at hc5
        rw [CoinRd.of ham.1 (by omega) hc5]
    refine od_ext k.symm (by show IntKind.u32.wrap a1 = p.loan; rw [z]; exact wrap_id ip.loan) hv.symm (ev_ext ?_ ?_ hk z4)
    · show IntKind.u32.wrap a2 = p.ev.seq
      rw [z2]; exact wrap_id ip.ev.seq
    · show d4.1 = p.ev.day
      rw [z3]
  · injection ha with e0 _; exact absurd e0.symm n3
  · injection ha with e0 _; exact absurd e0.symm n1
end
theorem tm0In : TmIn tm0 := ⟨⟨by decide, by decide⟩, ⟨by decide, by decide⟩, ⟨by decide, by decide⟩, ⟨by decide, by decide⟩, ⟨by decide, by decide⟩, ⟨by decide, by decide⟩, ⟨by decide, by decide⟩, ⟨by decide, by decide⟩⟩
theorem ev0In : EvIn ev0 := ⟨⟨by decide, by decide⟩, ⟨by decide, by decide⟩, ⟨by decide, by decide⟩, ⟨by decide, by decide⟩⟩
theorem TmRd.tin {l : List UInt8} {t : Tm × Er} (h : TmRd l t) : TmIn t.1 := by
  rcases h with ⟨_, _, h, _⟩ | ⟨_, h, _⟩
  · exact h
  · rw [h]; exact tm0In
theorem DayRd.din {s : ByteArray} {a : Int × Er} (h : DayRd s a) : inK .i32 a.1 := by
  rcases h with ⟨_, _, e3⟩ | ⟨_, e, _⟩
  · simp only [dayB, Bool.and_eq_true, decide_eq_true_eq] at e3
    exact ⟨by show (-2147483648 : Int) ≤ a.1; omega, by show a.1 ≤ (2147483647 : Int); omega⟩
  · rw [e]; exact ⟨by decide, by decide⟩
theorem CoinRd.cin {l : List UInt8} {a : Int × Er} (h : CoinRd l a) : inK .i64 a.1 := by
  rcases h with ⟨_, _, e⟩ | ⟨_, e, _⟩
  · exact e
  · rw [e]; exact ⟨by decide, by decide⟩
theorem trimG (l p : List UInt8) : CB 53 [.string (strOf l), .string (strOf p)] (.string (strOf (Lib.trimPrefix l p))) := by
  have h := trimPrefix (strOf l) (strOf p)
  rw [strOf_data, strOf_data] at h
  exact h
theorem wS_data : (⟨#[115, 116, 101, 112]⟩ : ByteArray) = strOf wStep := rfl
theorem wB_data : (⟨#[98, 111, 97, 114, 100]⟩ : ByteArray) = strOf wBoard := rfl
theorem wB2_data : (⟨#[98, 111, 97, 114, 100, 32]⟩ : ByteArray) = strOf (wBoard ++ [32]) := rfl
theorem wR_data : (⟨#[114, 101, 118, 101, 114, 115, 101]⟩ : ByteArray) = strOf wRev := rfl
theorem c32_data : (⟨#[32]⟩ : ByteArray) = strOf [32] := rfl
theorem yes5 {w v : List UInt8} {s : ByteArray} (e : s = strOf v) (q : eqS (strOf w) s = true) : w = v := by
  rw [e, eqS_strOf] at q; exact of_decide_eq_true q
theorem no5 {w v : List UInt8} {s : ByteArray} (e : s = strOf v) (q : eqS (strOf w) s = false) : w ≠ v := by
  rw [e, eqS_strOf] at q; exact of_decide_eq_false q
set_option maxHeartbeats 8000000 in
set_option maxRecDepth 20000 in
/-- An order is read of words. -/
theorem odRead (l : List UInt8) (hs : l.length < 4294967200) (w : World) (M I : BS) (hM : ∀ b, ¬ M b) (H : Hp ⟨w, M, I⟩ [] [LibF] w) :
    Ctr Tryz.prog 20 [.string (strOf l)] w M I oeV (OdRd l) (fun _ => []) (fun _ => []) := by
  obtain ⟨w0, w1, w2, w3, w4, r, R⟩ := rd5 l
  obtain ⟨n, hn⟩ : ∃ n, Lib.count l [32] = n := ⟨_, rfl⟩
  have hle := R.le
  have hlen := split_len l
  have hnl : n ≤ l.length + 1 := by
    have e := Lib.count_le l [32]
    omega
  refine Exe.of_ev tok Tryz.call20 Tryz.func20 rfl rfl rfl ?_
  refine alloc_as tok H (odC od0) rfl rfl rfl fun rr wz Hz => ?_
  refine call_rule Hz (fun M I _ hh => splitL l (by omega) n hn _ M I hh) fun g wy _ Hy => ?_
  refine slice_as tok Hy [.string ⟨#[]⟩, .string ⟨#[]⟩, .string ⟨#[]⟩, .string ⟨#[]⟩] rfl rfl rfl rfl rfl rfl fun g2 wx Hx => ?_
  have Hw : Hp ⟨w, M, I⟩ [row 9 1 (.slice (some ⟨g, 0, none⟩) (n + 1) (n + 1)) (n + 1) ((Lib.splitK [32] 0 (Lib.count l [32]) l).map fun x => Value.string (strOf x)), blk g2 [.string ⟨#[]⟩, .string ⟨#[]⟩, .string ⟨#[]⟩, .string ⟨#[]⟩] 9, blk rr (odC od0) 32] [LibF] wx := Hp.toRow (Hx.keep (S := [blk g ((Lib.splitK [32] 0 (Lib.count l [32]) l).map fun x => Value.string (strOf x)) 9, blk g2 [.string ⟨#[]⟩, .string ⟨#[]⟩, .string ⟨#[]⟩, .string ⟨#[]⟩] 9, blk rr (odC od0) 32])) (g := g) 1 (n + 1) (by rw [List.length_map, hlen, hn, Nat.mul_one]) (by omega)
  refine append_some (v := .slice (some ⟨g, 0, none⟩) (n + 1) (n + 1)) (b := g2) (m := 4) (c := 4) tok Hw rfl rfl rfl rfl rfl rfl rfl rfl (by show (n + 1 + 4) * 16 ≤ _; omega) (by omega) (by omega) fun a c wv Hv => ?_
  have ec : ((Lib.splitK [32] 0 (Lib.count l [32]) l).map fun x => Value.string (strOf x)) ++ [.string ⟨#[]⟩, .string ⟨#[]⟩, .string ⟨#[]⟩, .string ⟨#[]⟩] = (.string (strOf w0) :: .string (strOf w1) :: .string (strOf w2) :: .string (strOf w3) :: .string (strOf w4) :: r.map fun x => Value.string (strOf x)) := by
    have e := congrArg (List.map fun x => Value.string (strOf x)) R.all
    rw [List.map_append] at e
    exact e
  rw [ec] at Hv
  have Hv : Hp ⟨w, M, I⟩ [row 9 1 (.slice (some ⟨a, 0, none⟩) (n + 1 + 4) c) (n + 1 + 4) (.string (strOf w0) :: .string (strOf w1) :: .string (strOf w2) :: .string (strOf w3) :: .string (strOf w4) :: r.map fun x => Value.string (strOf x)), blk rr (odC od0) 32] [LibF] wv := Hv.keep
  refine idx_own tok rfl rfl (by decide) (by show (1 : Int) < ((n + 1 + 4 : Nat) : Int); omega) ?_
  refine row_ld tok Hv (.string (strOf w1)) rfl ?_
  refine call_rule Hv (fun M I _ h => parseUP w1 (by omega) _ M I h) fun a1 wu h1 Hu => ?_
  refine idx_own tok rfl rfl (by decide) (by show (2 : Int) < ((n + 1 + 4 : Nat) : Int); omega) ?_
  refine row_ld tok Hu (.string (strOf w2)) rfl ?_
  refine call_rule Hu (fun M I _ h => parseUP w2 (by omega) _ M I h) fun a2 wt h2 Ht => ?_
  refine alloc_as tok Ht (odC od0) rfl rfl rfl fun b ws Hs => ?_
  refine store_as tok Hs (odC ⟨0, IntKind.u32.wrap a1.1, tm0, ev0⟩) rfl rfl rfl rfl rfl fun wr Hr => ?_
  have Hr : Hp ⟨w, M, I⟩ [row 9 1 (.slice (some ⟨a, 0, none⟩) (n + 1 + 4) c) (n + 1 + 4) (.string (strOf w0) :: .string (strOf w1) :: .string (strOf w2) :: .string (strOf w3) :: .string (strOf w4) :: r.map fun x => Value.string (strOf x)), blk b (odC ⟨0, IntKind.u32.wrap a1.1, tm0, ev0⟩) 32, blk rr (odC od0) 32] [LibF] wr := Hr.keep
  refine idx_own tok rfl rfl (by decide) (by show (0 : Int) < ((n + 1 + 4 : Nat) : Int); omega) ?_
  refine row_ld tok Hr (.string (strOf w0)) rfl ?_
  refine br (fun q => ?_) (fun q1 => ?_)
  · have h0 : w0 = wStep := yes5 wS_data q
    refine store_as tok Hr (odC ⟨4, IntKind.u32.wrap a1.1, tm0, ev0⟩) rfl rfl rfl rfl rfl fun wq Hq => ?_
    have hin : OdIn ⟨4, IntKind.u32.wrap a1.1, tm0, ev0⟩ := ⟨⟨by show (0 : Int) ≤ 4; decide, by show (4 : Int) ≤ 255; decide⟩, wrap_in _ _, tm0In, ev0In⟩
    have hcmp : ∀ p, odB p = true → OdIn p → OdT p (strOf l) → ⟨4, IntKind.u32.wrap a1.1, tm0, ev0⟩ = p := fun p hp ip h => R.step h1 h0 hp ip h
    have HX : Hp ⟨w, M, I⟩ [blk b (odC ⟨4, IntKind.u32.wrap a1.1, tm0, ev0⟩) 32, blk rr (odC od0) 32] [LibF] _ := Hq.keep
    refine Exists.elim (⟨_, rfl⟩ : ∃ T : Od, T = ⟨4, IntKind.u32.wrap a1.1, tm0, ev0⟩) fun T hT => ?_
    rw [← hT] at hin HX
    rw [← hT] at hcmp
    refine load_rule tok HX (v := odV T) (by rw [hT]; rfl) ?_
    refine Or.elim (Classical.em (odB T = true)) (fun hb => ?_) (fun hb => ?_)
    · refine call_rule HX (fun M I _ h => odRightT hb _ M I h) fun _ wa _ Ha => ?_
      refine load_rule tok Ha (v := odV T) (by rw [hT]; rfl) ?_
      refine call_rule Ha (fun M I _ h => odText T hin hb _ M I h) fun s wb hs' Hb => ?_
      refine br (fun q => ?_) (fun q => ?_)
      · have q : (!eqS s (strOf l)) = true := q
        refine store_as tok Hb (odC od0) rfl rfl rfl rfl rfl fun wc Hc => ?_
        refine Exists.intro ⟨rr, 0, none⟩ (Exists.intro (odV od0) (And.intro rfl (And.intro (Hp.ld (T := tb) tok Hc rfl) ?_)))
        refine Exists.intro (od0, erN 15) (And.intro rfl (And.intro (.inr ⟨rfl, rfl, fun p hp ip h => ?_⟩) (Hp.keep Hc)))
        have e := hcmp p hp ip h
        rw [e] at hs'
        rw [hs'.uniq h, eqS_strOf, decide_eq_true rfl] at q
        cases q
      · have q : (!eqS s (strOf l)) = false := q
        have e : s = strOf l := by
          have h1 : eqS (strOf s.data.toList) (strOf l) = true := by rw [strOf_of]; simpa using q
          rw [eqS_strOf] at h1
          rw [← of_decide_eq_true h1, strOf_of]
        refine load_rule tok Hb (v := odV T) (by rw [hT]; rfl) ?_
        refine store_as tok Hb (odC T) rfl rfl rfl rfl rfl fun wc Hc => ?_
        refine Exists.intro ⟨rr, 0, none⟩ (Exists.intro (odV T) (And.intro rfl (And.intro (Hp.ld (T := tb) tok Hc rfl) ?_)))
        exact Exists.intro (T, none) (And.intro rfl (And.intro (.inl ⟨rfl, hb, hin, e ▸ hs'⟩) (Hp.keep Hc)))
    · have hb : odB T = false := by simpa using hb
      refine call_rule HX (fun M I _ h => odRightF hb _ M I h) fun _ wa _ Ha => ?_
      refine store_as tok Ha (odC od0) rfl rfl rfl rfl rfl fun wc Hc => ?_
      refine Exists.intro ⟨rr, 0, none⟩ (Exists.intro (odV od0) (And.intro rfl (And.intro (Hp.ld (T := tb) tok Hc rfl) ?_)))
      refine Exists.intro (od0, erN 15) (And.intro rfl (And.intro (.inr ⟨rfl, rfl, fun p hp ip h => ?_⟩) (Hp.keep Hc)))
      have e := hcmp p hp ip h
      rw [e, hp] at hb
      cases hb
  have n1 : w0 ≠ wStep := no5 wS_data q1
  refine br (fun q => ?_) (fun q2 => ?_)
  · have h0 : w0 = wBoard := yes5 wB_data q
    refine store_as tok Hr (odC ⟨1, IntKind.u32.wrap a1.1, tm0, ev0⟩) rfl rfl rfl rfl rfl fun wq Hq => ?_
    refine idx_own tok rfl rfl (by decide) (by show (1 : Int) < ((n + 1 + 4 : Nat) : Int); omega) ?_
    refine row_ld tok Hq (.string (strOf w1)) rfl ?_
    refine sadd_as (strOf (wBoard ++ [32] ++ w1)) (by rw [wB2_data, strOf_app]) (by rw [strOf_size]; simp only [List.length_append, List.length_cons, List.length_nil, wBoard]; omega) ?_
    refine sadd_as (strOf (wBoard ++ [32] ++ w1 ++ [32])) (by rw [c32_data, strOf_app]) (by rw [strOf_size]; simp only [List.length_append, List.length_cons, List.length_nil, wBoard]; omega) ?_
    refine call_rule Hq (fun M I _ h => trimG l (wBoard ++ [32] ++ w1 ++ [32]) _ M I h) fun _ wp _ Hp1 => ?_
    refine call_rule Hp1 (fun M I h0 h => tmRead (Lib.trimPrefix l (wBoard ++ [32] ++ w1 ++ [32])) (Nat.lt_of_le_of_lt (trim_le _ _) (by omega)) _ M I (h0 rfl) h) fun t wo ht Ho => ?_
    refine store_as tok Ho (odC ⟨1, IntKind.u32.wrap a1.1, t.1, ev0⟩) rfl rfl rfl rfl rfl fun wn Hn => ?_
    have hin : OdIn ⟨1, IntKind.u32.wrap a1.1, t.1, ev0⟩ := ⟨⟨by show (0 : Int) ≤ 1; decide, by show (1 : Int) ≤ 255; decide⟩, wrap_in _ _, TmRd.tin ht, ev0In⟩
    have hcmp : ∀ p, odB p = true → OdIn p → OdT p (strOf l) → ⟨1, IntKind.u32.wrap a1.1, t.1, ev0⟩ = p := fun p hp ip h => R.board h1 h0 hp ip h ht
    have HX : Hp ⟨w, M, I⟩ [blk b (odC ⟨1, IntKind.u32.wrap a1.1, t.1, ev0⟩) 32, blk rr (odC od0) 32] [LibF] _ := Hn.keep
    refine Exists.elim (⟨_, rfl⟩ : ∃ T : Od, T = ⟨1, IntKind.u32.wrap a1.1, t.1, ev0⟩) fun T hT => ?_
    rw [← hT] at hin HX
    rw [← hT] at hcmp
    refine load_rule tok HX (v := odV T) (by rw [hT]; rfl) ?_
    refine Or.elim (Classical.em (odB T = true)) (fun hb => ?_) (fun hb => ?_)
    · refine call_rule HX (fun M I _ h => odRightT hb _ M I h) fun _ wa _ Ha => ?_
      refine load_rule tok Ha (v := odV T) (by rw [hT]; rfl) ?_
      refine call_rule Ha (fun M I _ h => odText T hin hb _ M I h) fun s wb hs' Hb => ?_
      refine br (fun q => ?_) (fun q => ?_)
      · have q : (!eqS s (strOf l)) = true := q
        refine store_as tok Hb (odC od0) rfl rfl rfl rfl rfl fun wc Hc => ?_
        refine Exists.intro ⟨rr, 0, none⟩ (Exists.intro (odV od0) (And.intro rfl (And.intro (Hp.ld (T := tb) tok Hc rfl) ?_)))
        refine Exists.intro (od0, erN 15) (And.intro rfl (And.intro (.inr ⟨rfl, rfl, fun p hp ip h => ?_⟩) (Hp.keep Hc)))
        have e := hcmp p hp ip h
        rw [e] at hs'
        rw [hs'.uniq h, eqS_strOf, decide_eq_true rfl] at q
        cases q
      · have q : (!eqS s (strOf l)) = false := q
        have e : s = strOf l := by
          have h1 : eqS (strOf s.data.toList) (strOf l) = true := by rw [strOf_of]; simpa using q
          rw [eqS_strOf] at h1
          rw [← of_decide_eq_true h1, strOf_of]
        refine load_rule tok Hb (v := odV T) (by rw [hT]; rfl) ?_
        refine store_as tok Hb (odC T) rfl rfl rfl rfl rfl fun wc Hc => ?_
        refine Exists.intro ⟨rr, 0, none⟩ (Exists.intro (odV T) (And.intro rfl (And.intro (Hp.ld (T := tb) tok Hc rfl) ?_)))
        exact Exists.intro (T, none) (And.intro rfl (And.intro (.inl ⟨rfl, hb, hin, e ▸ hs'⟩) (Hp.keep Hc)))
    · have hb : odB T = false := by simpa using hb
      refine call_rule HX (fun M I _ h => odRightF hb _ M I h) fun _ wa _ Ha => ?_
      refine store_as tok Ha (odC od0) rfl rfl rfl rfl rfl fun wc Hc => ?_
      refine Exists.intro ⟨rr, 0, none⟩ (Exists.intro (odV od0) (And.intro rfl (And.intro (Hp.ld (T := tb) tok Hc rfl) ?_)))
      refine Exists.intro (od0, erN 15) (And.intro rfl (And.intro (.inr ⟨rfl, rfl, fun p hp ip h => ?_⟩) (Hp.keep Hc)))
      have e := hcmp p hp ip h
      rw [e, hp] at hb
      cases hb
  have n2 : w0 ≠ wBoard := no5 wB_data q2
  refine br (fun q => ?_) (fun q3 => ?_)
  · have h0 : w0 = wRev := yes5 wR_data q
    refine store_as tok Hr (odC ⟨3, IntKind.u32.wrap a1.1, tm0, ev0⟩) rfl rfl rfl rfl rfl fun wq Hq => ?_
    refine store_as tok Hq (odC ⟨3, IntKind.u32.wrap a1.1, tm0, ⟨IntKind.u32.wrap a2.1, 0, 0, 0⟩⟩) rfl rfl rfl rfl rfl fun wn Hn => ?_
    have hin : OdIn ⟨3, IntKind.u32.wrap a1.1, tm0, ⟨IntKind.u32.wrap a2.1, 0, 0, 0⟩⟩ := ⟨⟨by show (0 : Int) ≤ 3; decide, by show (3 : Int) ≤ 255; decide⟩, wrap_in _ _, tm0In, ⟨wrap_in _ _, ev0In.day, ev0In.kind, ev0In.amt⟩⟩
    have hcmp : ∀ p, odB p = true → OdIn p → OdT p (strOf l) → ⟨3, IntKind.u32.wrap a1.1, tm0, ⟨IntKind.u32.wrap a2.1, 0, 0, 0⟩⟩ = p := fun p hp ip h => R.rev h1 h2 h0 hp ip h
    have HX : Hp ⟨w, M, I⟩ [blk b (odC ⟨3, IntKind.u32.wrap a1.1, tm0, ⟨IntKind.u32.wrap a2.1, 0, 0, 0⟩⟩) 32, blk rr (odC od0) 32] [LibF] _ := Hn.keep
    refine Exists.elim (⟨_, rfl⟩ : ∃ T : Od, T = ⟨3, IntKind.u32.wrap a1.1, tm0, ⟨IntKind.u32.wrap a2.1, 0, 0, 0⟩⟩) fun T hT => ?_
    rw [← hT] at hin HX
    rw [← hT] at hcmp
    refine load_rule tok HX (v := odV T) (by rw [hT]; rfl) ?_
    refine Or.elim (Classical.em (odB T = true)) (fun hb => ?_) (fun hb => ?_)
    · refine call_rule HX (fun M I _ h => odRightT hb _ M I h) fun _ wa _ Ha => ?_
      refine load_rule tok Ha (v := odV T) (by rw [hT]; rfl) ?_
      refine call_rule Ha (fun M I _ h => odText T hin hb _ M I h) fun s wb hs' Hb => ?_
      refine br (fun q => ?_) (fun q => ?_)
      · have q : (!eqS s (strOf l)) = true := q
        refine store_as tok Hb (odC od0) rfl rfl rfl rfl rfl fun wc Hc => ?_
        refine Exists.intro ⟨rr, 0, none⟩ (Exists.intro (odV od0) (And.intro rfl (And.intro (Hp.ld (T := tb) tok Hc rfl) ?_)))
        refine Exists.intro (od0, erN 15) (And.intro rfl (And.intro (.inr ⟨rfl, rfl, fun p hp ip h => ?_⟩) (Hp.keep Hc)))
        have e := hcmp p hp ip h
        rw [e] at hs'
        rw [hs'.uniq h, eqS_strOf, decide_eq_true rfl] at q
        cases q
      · have q : (!eqS s (strOf l)) = false := q
        have e : s = strOf l := by
          have h1 : eqS (strOf s.data.toList) (strOf l) = true := by rw [strOf_of]; simpa using q
          rw [eqS_strOf] at h1
          rw [← of_decide_eq_true h1, strOf_of]
        refine load_rule tok Hb (v := odV T) (by rw [hT]; rfl) ?_
        refine store_as tok Hb (odC T) rfl rfl rfl rfl rfl fun wc Hc => ?_
        refine Exists.intro ⟨rr, 0, none⟩ (Exists.intro (odV T) (And.intro rfl (And.intro (Hp.ld (T := tb) tok Hc rfl) ?_)))
        exact Exists.intro (T, none) (And.intro rfl (And.intro (.inl ⟨rfl, hb, hin, e ▸ hs'⟩) (Hp.keep Hc)))
    · have hb : odB T = false := by simpa using hb
      refine call_rule HX (fun M I _ h => odRightF hb _ M I h) fun _ wa _ Ha => ?_
      refine store_as tok Ha (odC od0) rfl rfl rfl rfl rfl fun wc Hc => ?_
      refine Exists.intro ⟨rr, 0, none⟩ (Exists.intro (odV od0) (And.intro rfl (And.intro (Hp.ld (T := tb) tok Hc rfl) ?_)))
      refine Exists.intro (od0, erN 15) (And.intro rfl (And.intro (.inr ⟨rfl, rfl, fun p hp ip h => ?_⟩) (Hp.keep Hc)))
      have e := hcmp p hp ip h
      rw [e, hp] at hb
      cases hb
  have n3 : w0 ≠ wRev := no5 wR_data q3
  refine idx_own tok rfl rfl (by decide) (by show (0 : Int) < ((n + 1 + 4 : Nat) : Int); omega) ?_
  refine row_ld tok Hr (.string (strOf w0)) rfl ?_
  refine call_rule Hr (fun M I _ h => orderKind (strOf w0) _ M I h) fun _ wq _ Hq => ?_
  refine store_as tok Hq (odC ⟨2, IntKind.u32.wrap a1.1, tm0, ev0⟩) rfl rfl rfl rfl rfl fun wp Hp1 => ?_
  refine store_as tok Hp1 (odC ⟨2, IntKind.u32.wrap a1.1, tm0, ⟨IntKind.u32.wrap a2.1, 0, odKind (strOf w0), 0⟩⟩) rfl rfl rfl rfl rfl fun wo Ho => ?_
  have Ho : Hp ⟨w, M, I⟩ [row 9 1 (.slice (some ⟨a, 0, none⟩) (n + 1 + 4) c) (n + 1 + 4) (.string (strOf w0) :: .string (strOf w1) :: .string (strOf w2) :: .string (strOf w3) :: .string (strOf w4) :: r.map fun x => Value.string (strOf x)), blk b (odC ⟨2, IntKind.u32.wrap a1.1, tm0, ⟨IntKind.u32.wrap a2.1, 0, odKind (strOf w0), 0⟩⟩) 32, blk rr (odC od0) 32] [LibF] wo := Ho.keep
  refine idx_own tok rfl rfl (by decide) (by show (3 : Int) < ((n + 1 + 4 : Nat) : Int); omega) ?_
  refine row_ld tok Ho (.string (strOf w3)) rfl ?_
  refine call_rule Ho (fun M I _ h => dayRead (strOf w3) _ M I h) fun d4 wn hd4 Hn => ?_
  refine store_as tok Hn (odC ⟨2, IntKind.u32.wrap a1.1, tm0, ⟨IntKind.u32.wrap a2.1, d4.1, odKind (strOf w0), 0⟩⟩) rfl rfl rfl rfl rfl fun wm Hm => ?_
  have Hm : Hp ⟨w, M, I⟩ [row 9 1 (.slice (some ⟨a, 0, none⟩) (n + 1 + 4) c) (n + 1 + 4) (.string (strOf w0) :: .string (strOf w1) :: .string (strOf w2) :: .string (strOf w3) :: .string (strOf w4) :: r.map fun x => Value.string (strOf x)), blk b (odC ⟨2, IntKind.u32.wrap a1.1, tm0, ⟨IntKind.u32.wrap a2.1, d4.1, odKind (strOf w0), 0⟩⟩) 32, blk rr (odC od0) 32] [LibF] wm := Hm.keep
  refine idx_own tok rfl rfl (by decide) (by show (4 : Int) < ((n + 1 + 4 : Nat) : Int); omega) ?_
  refine row_ld tok Hm (.string (strOf w4)) rfl ?_
  refine call_rule Hm (fun M I _ h => coinRead w4 (by omega) _ M I h) fun c5 wl hc5 Hl => ?_
  refine store_as tok Hl (odC ⟨2, IntKind.u32.wrap a1.1, tm0, ⟨IntKind.u32.wrap a2.1, d4.1, odKind (strOf w0), c5.1⟩⟩) rfl rfl rfl rfl rfl fun wk Hk => ?_
  have hin : OdIn ⟨2, IntKind.u32.wrap a1.1, tm0, ⟨IntKind.u32.wrap a2.1, d4.1, odKind (strOf w0), c5.1⟩⟩ := ⟨⟨by show (0 : Int) ≤ 2; decide, by show (2 : Int) ≤ 255; decide⟩, wrap_in _ _, tm0In, ⟨wrap_in _ _, DayRd.din hd4, odKind_in _, CoinRd.cin hc5⟩⟩
  have hcmp : ∀ p, odB p = true → OdIn p → OdT p (strOf l) → ⟨2, IntKind.u32.wrap a1.1, tm0, ⟨IntKind.u32.wrap a2.1, d4.1, odKind (strOf w0), c5.1⟩⟩ = p := fun p hp ip h => R.take h1 h2 n1 n2 n3 hd4 hc5 hp ip h
  have HX : Hp ⟨w, M, I⟩ [blk b (odC ⟨2, IntKind.u32.wrap a1.1, tm0, ⟨IntKind.u32.wrap a2.1, d4.1, odKind (strOf w0), c5.1⟩⟩) 32, blk rr (odC od0) 32] [LibF] _ := Hk.keep
  refine Exists.elim (⟨_, rfl⟩ : ∃ T : Od, T = ⟨2, IntKind.u32.wrap a1.1, tm0, ⟨IntKind.u32.wrap a2.1, d4.1, odKind (strOf w0), c5.1⟩⟩) fun T hT => ?_
  rw [← hT] at hin HX
  rw [← hT] at hcmp
  refine load_rule tok HX (v := odV T) (by rw [hT]; rfl) ?_
  refine Or.elim (Classical.em (odB T = true)) (fun hb => ?_) (fun hb => ?_)
  · refine call_rule HX (fun M I _ h => odRightT hb _ M I h) fun _ wa _ Ha => ?_
    refine load_rule tok Ha (v := odV T) (by rw [hT]; rfl) ?_
    refine call_rule Ha (fun M I _ h => odText T hin hb _ M I h) fun s wb hs' Hb => ?_
    refine br (fun q => ?_) (fun q => ?_)
    · have q : (!eqS s (strOf l)) = true := q
      refine store_as tok Hb (odC od0) rfl rfl rfl rfl rfl fun wc Hc => ?_
      refine Exists.intro ⟨rr, 0, none⟩ (Exists.intro (odV od0) (And.intro rfl (And.intro (Hp.ld (T := tb) tok Hc rfl) ?_)))
      refine Exists.intro (od0, erN 15) (And.intro rfl (And.intro (.inr ⟨rfl, rfl, fun p hp ip h => ?_⟩) (Hp.keep Hc)))
      have e := hcmp p hp ip h
      rw [e] at hs'
      rw [hs'.uniq h, eqS_strOf, decide_eq_true rfl] at q
      cases q
    · have q : (!eqS s (strOf l)) = false := q
      have e : s = strOf l := by
        have h1 : eqS (strOf s.data.toList) (strOf l) = true := by rw [strOf_of]; simpa using q
        rw [eqS_strOf] at h1
        rw [← of_decide_eq_true h1, strOf_of]
      refine load_rule tok Hb (v := odV T) (by rw [hT]; rfl) ?_
      refine store_as tok Hb (odC T) rfl rfl rfl rfl rfl fun wc Hc => ?_
      refine Exists.intro ⟨rr, 0, none⟩ (Exists.intro (odV T) (And.intro rfl (And.intro (Hp.ld (T := tb) tok Hc rfl) ?_)))
      exact Exists.intro (T, none) (And.intro rfl (And.intro (.inl ⟨rfl, hb, hin, e ▸ hs'⟩) (Hp.keep Hc)))
  · have hb : odB T = false := by simpa using hb
    refine call_rule HX (fun M I _ h => odRightF hb _ M I h) fun _ wa _ Ha => ?_
    refine store_as tok Ha (odC od0) rfl rfl rfl rfl rfl fun wc Hc => ?_
    refine Exists.intro ⟨rr, 0, none⟩ (Exists.intro (odV od0) (And.intro rfl (And.intro (Hp.ld (T := tb) tok Hc rfl) ?_)))
    refine Exists.intro (od0, erN 15) (And.intro rfl (And.intro (.inr ⟨rfl, rfl, fun p hp ip h => ?_⟩) (Hp.keep Hc)))
    have e := hcmp p hp ip h
    rw [e, hp] at hb
    cases hb
end Go.Proofs.YtgbmambkgcjhfaaGreatDoor
