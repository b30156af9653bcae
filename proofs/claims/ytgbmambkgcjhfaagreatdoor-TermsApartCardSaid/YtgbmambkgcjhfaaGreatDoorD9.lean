/- Month by month; sums from the first one on: the walks. -/
import Derived.Test.YtgbmambkgcjhfaaGreatDoorD8
import Derived.Test.YtgbmambkgcjhfaaGreatDoorK9
set_option linter.unusedVariables false
namespace Go.Proofs.YtgbmambkgcjhfaaGreatDoor
open Go Go.Proofs Go.Wk
theorem bsGo_in (f : Int → Bool) : ∀ (k : Nat) (lo hi : Int), lo ≤ hi → lo ≤ bsGo f k lo hi ∧ bsGo f k lo hi ≤ hi
  | 0, lo, hi, h => ⟨Int.le_refl _, h⟩
  | k + 1, lo, hi, h => by
    unfold bsGo
    split
    · split
      · have := bsGo_in f k lo (lo + (hi - lo) / 2) (by omega); omega
      · have := bsGo_in f k (lo + (hi - lo) / 2 + 1) hi (by omega); omega
    · exact ⟨Int.le_refl _, h⟩
theorem payV_in {p parts b : Int} {n : Nat} (hr : rateB parts b = true) (h0 : 0 ≤ parts) (h1 : 1 ≤ p) (h2 : p ≤ 1000000000000) : 1 ≤ payV p parts n ∧ payV p parts n ≤ p + iM parts p := by
  have := iM_bd hr h0 (by omega) h2
  exact bsGo_in _ _ _ _ (by omega)
/-- The months of a schedule. -/
def rowsGo (kind parts : Int) : Nat → Int → Int → List (Int × Int × Int)
  | 0, _, _ => []
  | k + 1, left, pay => mon3 parts left (if kind = 2 then iM parts left else pay) (k == 0) :: rowsGo kind parts k (mon3 parts left (if kind = 2 then iM parts left else pay) (k == 0)).2.2 (if kind = 2 then iM parts left else pay)
theorem rowsGo_len (kind parts : Int) : ∀ (k : Nat) (left pay : Int), (rowsGo kind parts k left pay).length = k
  | 0, _, _ => rfl
  | k + 1, left, pay => by rw [rowsGo, List.length_cons, rowsGo_len]
theorem mon3_bd {parts b left pay : Int} (hr : rateB parts b = true) (h0 : 0 ≤ parts) (hl : 0 ≤ left) (hl2 : left ≤ 1000000000000) (hp : iM parts left ≤ pay ∨ 0 ≤ pay) (all : Bool) : 0 ≤ (mon3 parts left pay all).1 ∧ (mon3 parts left pay all).1 + (mon3 parts left pay all).2.1 + (mon3 parts left pay all).2.2 = left + iM parts left := by
  have := iM_bd hr h0 hl hl2
  unfold mon3
  split
  · exact ⟨this.1, by show iM parts left + (left + iM parts left - iM parts left) + (left + iM parts left - (left + iM parts left)) = _; omega⟩
  · exact ⟨this.1, by show iM parts left + (pay - iM parts left) + (left + iM parts left - pay) = _; omega⟩
@[reducible] def r3ok (x : Int × Int × Int) : Prop := (0 ≤ x.1 ∧ x.1 ≤ 3000000000000) ∧ (-3000000000000 ≤ x.2.1 ∧ x.2.1 ≤ 3000000000000) ∧ (0 ≤ x.2.2 ∧ x.2.2 ≤ 3000000000000)
@[reducible] def row3R : Rp (Int × Int × Int) := ⟨3, Unit, fun x _ => row3C x, fun x _ => r3ok x, fun _ _ => [], fun _ _ => rfl⟩
/-- Left is not more than it was, as long as the interest is paid. -/
theorem mon3_dec {parts b left pay : Int} (hr : rateB parts b = true) (h0 : 0 ≤ parts) (hl : 0 ≤ left) (hl2 : left ≤ 1000000000000) (hp : 0 ≤ pay) (all : Bool) : (mon3 parts left pay all).2.2 ≤ left + iM parts left ∧ 0 ≤ (mon3 parts left pay all).2.2 ∧ (iM parts left ≤ pay → (mon3 parts left pay all).2.2 ≤ left) := by
  have := iM_bd hr h0 hl hl2
  refine ⟨?_, mon3_left hr h0 hl hl2 all, fun hpi => ?_⟩
  · unfold mon3
    split
    · show left + iM parts left - (left + iM parts left) ≤ _; omega
    · show left + iM parts left - pay ≤ _; omega
  · unfold mon3
    split
    · show left + iM parts left - (left + iM parts left) ≤ _; omega
    · show left + iM parts left - pay ≤ _; omega
theorem mon3_ok {parts b left pay : Int} (hr : rateB parts b = true) (h0 : 0 ≤ parts) (hl : 0 ≤ left) (hl2 : left ≤ 1000000000000) (hp : 0 ≤ pay) (hp2 : pay ≤ 1100000000000) (all : Bool) : r3ok (mon3 parts left pay all) := by
  have := iM_bd hr h0 hl hl2
  unfold mon3
  split
  · exact ⟨⟨this.1, by show iM parts left ≤ _; omega⟩, ⟨by show _ ≤ left + iM parts left - iM parts left; omega, by show left + iM parts left - iM parts left ≤ _; omega⟩, by show 0 ≤ left + iM parts left - (left + iM parts left); omega, by show left + iM parts left - (left + iM parts left) ≤ _; omega⟩
  · rename_i h
    have h : ¬ left + iM parts left < pay := fun e => h (.inr e)
    exact ⟨⟨this.1, by show iM parts left ≤ _; omega⟩, ⟨by show _ ≤ pay - iM parts left; omega, by show pay - iM parts left ≤ _; omega⟩, by show 0 ≤ left + iM parts left - pay; omega, by show left + iM parts left - pay ≤ _; omega⟩
theorem rowPay (x : Int × Int × Int) (h : r3ok x) : CB 119 [row3V x] (.int .i64 (x.1 + x.2.1)) := by
  intro w M I H
  have h1 := h.1
  have h2 := h.2.1
  have e : IntKind.i64.wrap (x.1 + x.2.1) = x.1 + x.2.1 := i64w (by omega) (by omega)
  refine Exe.of_ev tok Tryz.call119 Tryz.func119 rfl rfl rfl ?_
  refine box_as H (row3C x) rfl fun r w1 H1 => ?_
  refine load_rule tok H1 (v := .int .i64 x.1) rfl ?_
  refine load_rule tok H1 (v := .int .i64 x.2.1) rfl ?_
  exact Exists.intro () (And.intro (congrArg (Value.int .i64) e) (And.intro trivial (Hp.keep H1)))
def sumsGo : Int → List (Int × Int × Int) → List Int
  | _, [] => []
  | s, x :: r => (s + (x.1 + x.2.1)) :: sumsGo (s + (x.1 + x.2.1)) r
@[reducible] def i64C (x : Int) : List Value := [.int .i64 x]
theorem sumsGo_snoc : ∀ (l : List (Int × Int × Int)) (s : Int) (x : Int × Int × Int), sumsGo s (l ++ [x]) = sumsGo s l ++ [(l.map fun y => y.1 + y.2.1).foldl (· + ·) s + (x.1 + x.2.1)]
  | [], s, x => rfl
  | y :: r, s, x => by simp only [List.cons_append, sumsGo, List.map_cons, List.foldl_cons]; rw [sumsGo_snoc r]
def tot : Int → List (Int × Int × Int) → Int
  | s, [] => s
  | s, x :: r => tot (s + (x.1 + x.2.1)) r
theorem tot_snoc : ∀ (l : List (Int × Int × Int)) (s : Int) (x : Int × Int × Int), tot s (l ++ [x]) = tot s l + (x.1 + x.2.1)
  | [], _, _ => rfl
  | y :: r, s, x => by simp only [List.cons_append, tot]; exact tot_snoc r _ x
theorem sums_snoc : ∀ (l : List (Int × Int × Int)) (s : Int) (x : Int × Int × Int), sumsGo s (l ++ [x]) = sumsGo s l ++ [tot s l + (x.1 + x.2.1)]
  | [], s, x => rfl
  | y :: r, s, x => by simp only [List.cons_append, sumsGo, tot]; rw [sums_snoc r]
theorem tot_bd : ∀ (l : List (Int × Int × Int)) (s : Int) (n : Nat), (∀ x, x ∈ l → r3ok x) → -(6000000000000 * (n : Int)) ≤ s → s ≤ 6000000000000 * (n : Int) → -(6000000000000 * ((n + l.length : Nat) : Int)) ≤ tot s l ∧ tot s l ≤ 6000000000000 * ((n + l.length : Nat) : Int)
  | [], s, n, _, h1, h2 => ⟨h1, h2⟩
  | x :: r, s, n, h, h1, h2 => by
    have hx := h x List.mem_cons_self
    have := tot_bd r (s + (x.1 + x.2.1)) (n + 1) (fun y hy => h y (List.mem_cons_of_mem _ hy)) (by obtain ⟨⟨a, b⟩, ⟨c, d⟩, _⟩ := hx; omega) (by obtain ⟨⟨a, b⟩, ⟨c, d⟩, _⟩ := hx; omega)
    rw [show n + (x :: r).length = n + 1 + r.length by simp; omega]
    exact this
theorem sumsGo_bd : ∀ (l : List (Int × Int × Int)) (s : Int) (n : Nat), (∀ x, x ∈ l → r3ok x) → -(6000000000000 * (n : Int)) ≤ s → s ≤ 6000000000000 * (n : Int) → ∀ y, y ∈ sumsGo s l → -(6000000000000 * ((n + l.length : Nat) : Int)) ≤ y ∧ y ≤ 6000000000000 * ((n + l.length : Nat) : Int)
  | [], _, _, _, _, _, y, h => by cases h
  | x :: r, s, n, h, h1, h2, y, hy => by
    obtain ⟨⟨a, b⟩, ⟨c, d⟩, _⟩ := h x List.mem_cons_self
    rcases List.mem_cons.1 hy with rfl | hy
    · simp only [List.length_cons]; omega
    · have := sumsGo_bd r (s + (x.1 + x.2.1)) (n + 1) (fun y hy => h y (List.mem_cons_of_mem _ hy)) (by omega) (by omega) y hy
      rw [show n + (x :: r).length = n + 1 + r.length by simp; omega]
      exact this
set_option maxRecDepth 20000 in
theorem sums (A : Option Addr) (n c : Nat) (xs : List (Int × Int × Int)) (hn : n ≤ 1000) (w : World) (M I : BS) (hM : ∀ b, ¬ M b) (H : Hp ⟨w, M, I⟩ [] [Sl row3R (.slice A n c) xs] w) :
    Ctr Tryz.prog 65 [.slice A n c] w M I (fun a : SV => .slice a.A a.n a.c) (fun _ => True) (fun _ => []) (fun a => [Sl (Go.Wk.intR .i64) (.slice a.A a.n a.c) (sumsGo 0 xs)]) := by
  obtain ⟨hnl, hc, hc2⟩ := H.sll (A := A) (n := n) (c := c)
  have hok : ∀ x, x ∈ xs → r3ok x := fun x hx => by
    obtain ⟨I2, fp, _, ha, _⟩ := H.ex
    obtain ⟨A', c', _, _, _, _, hel⟩ := ha _ List.mem_cons_self
    obtain ⟨i, hi⟩ := List.mem_iff_getElem?.1 hx
    obtain ⟨b, o, _, _, p, hok, _⟩ := hel i x hi
    exact hok
  have H0 : Hp ⟨w, M, I⟩ [row 23 1 (.slice none 0 0) 0 (flatL i64C [])] [Sl row3R (.slice A n c) xs] w := Hp.nil H 23 1
  refine Exe.of_ev tok Tryz.call65 Tryz.func65 rfl rfl rfl ?_
  refine loop_rule tok (σ := Nat × SV) 4193880 (fun s => [(3, .slice s.2.A s.1 s.2.c), (4, .int .i64 (tot 0 (xs.take s.1))), (9, .int .i64 (s.1 : Int))])
    (fun s w' => s.1 ≤ n ∧ Hp ⟨w, M, I⟩ [row 23 1 (.slice s.2.A s.1 s.2.c) s.1 (flatL i64C (sumsGo 0 (xs.take s.1)))] [Sl row3R (.slice A n c) xs] w') (fun s => n - s.1) (0, ⟨none, 0, 0⟩) rfl rfl ⟨rfl, rfl, rfl, trivial⟩ ⟨Nat.zero_le _, H0⟩ ?_
  intro s j w1 hW
  have hi := hW.1
  have H1 := hW.2
  refine brd (fun hlt => ?_) (fun hge => ?_)
  · have ew : IntKind.i64.wrap ((s.1 : Int) + 1) = ((s.1 + 1 : Nat) : Int) := i64w (by omega) (by omega)
    refine idx_rule tok H1 rfl rfl rfl (by omega) hlt fun eb eo x hx H2 => ?_
    have hx' : xs[s.1]? = some x := by simpa using hx
    have htk : xs.take (s.1 + 1) = xs.take s.1 ++ [x] := by rw [List.take_add_one, hx']; rfl
    have hxo := hok x (List.mem_of_getElem? hx')
    have hb := tot_bd (xs.take (s.1 + 1)) 0 0 (fun y hy => hok y (List.mem_of_mem_take hy)) (by omega) (by omega)
    have hlen : (xs.take (s.1 + 1)).length ≤ 1000 := by rw [List.length_take]; omega
    have es : IntKind.i64.wrap (tot 0 (xs.take s.1) + (x.1 + x.2.1)) = tot 0 (xs.take (s.1 + 1)) := by
      have hlen2 := hlen
      rw [htk] at hlen2
      rw [htk, tot_snoc] at hb ⊢
      exact i64w (by omega) (by omega)
    refine ldp_rule tok H2 rfl rfl rfl fun _ _ H3 => ?_
    refine alloc_as tok H3 (row3C (0, 0, 0)) rfl rfl rfl fun o w2 H4 => ?_
    refine store_as tok H4 (row3C x) rfl rfl rfl rfl rfl fun w3 H5 => ?_
    refine load_rule tok H5 (v := row3V x) rfl ?_
    refine call_rule H5 (fun M I _ h => rowPay x hxo _ M I h) fun _ w4 _ H6 => ?_
    refine slice_as tok H6 (i64C (IntKind.i64.wrap (tot 0 (xs.take s.1) + (x.1 + x.2.1)))) rfl rfl rfl rfl rfl rfl fun g w5 H7 => ?_
    refine append_rule (v := .slice s.2.A s.1 s.2.c) (b := g) (m := 1) (c := 1) tok H7 rfl rfl rfl rfl rfl rfl rfl rfl (by show (s.1 + 1) * 8 ≤ _; omega) (by omega) fun A2 c2 w6 H8 => ?_
    have e8 : flatL i64C (sumsGo 0 (xs.take s.1)) ++ i64C (IntKind.i64.wrap (tot 0 (xs.take s.1) + (x.1 + x.2.1))) = flatL i64C (sumsGo 0 (xs.take (s.1 + 1))) := by
      rw [es, htk, sums_snoc, flatL_snoc, tot_snoc]
    rw [e8] at H8
    exact Exists.intro (s.1 + 1, ⟨A2, 0, c2⟩) (And.intro ⟨rfl, congrArg (Value.int .i64) es, congrArg (Value.int .i64) ew, trivial⟩ (And.intro (by show n - (s.1 + 1) < n - s.1; omega) ⟨by show s.1 + 1 ≤ n; omega, Hp.keep H8⟩))
  · have e : s.1 = n := by omega
    have et : xs.take s.1 = xs := by rw [e, hnl]; exact List.take_length
    rw [et] at H1
    have H2 := Hp.frzFlat (v := .slice s.2.A s.1 s.2.c) H1 1 i64C (fun _ => rfl) (fun x => inK .i64 x) hM (by decide) (fun x hx => ?_)
    · exact Exists.intro ⟨s.2.A, s.1, s.2.c⟩ (And.intro rfl (And.intro trivial (Hp.keep H2)))
    · have hlen : xs.length ≤ 1000 := by omega
      have := sumsGo_bd xs 0 0 hok (by omega) (by omega) x hx
      exact ⟨by show (-9223372036854775808 : Int) ≤ x; omega, by show x ≤ (9223372036854775807 : Int); omega⟩
end Go.Proofs.YtgbmambkgcjhfaaGreatDoor
