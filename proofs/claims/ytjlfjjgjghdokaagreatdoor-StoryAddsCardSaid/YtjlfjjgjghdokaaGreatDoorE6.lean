/- A payment: what is owed first, the rest is suspense: the walks of split and pay. -/
import Derived.Test.YtjlfjjgjghdokaaGreatDoorE5
set_option linter.unusedVariables false
namespace Go.Proofs.YtjlfjjgjghdokaaGreatDoor
open Go Go.Proofs Go.Wk
@[reducible] def owC (f i p : Int) : List Value := [.int .i64 f, .int .i64 i, .int .i64 p]
@[reducible] def owV (f i p : Int) : Value := .agg #[.int .i64 f, .int .i64 i, .int .i64 p]
theorem owRight (f i p : Int) (hf : 0 ≤ f) (hi : 0 ≤ i) (hp : 0 ≤ p) : CB 22 [owV f i p] (.bool true) := by
  intro w M I H
  refine Exe.of_ev tok Tryz.call22 Tryz.func22 rfl rfl rfl ?_
  refine box_as H (owC f i p) rfl fun r w1 H1 => ?_
  refine load_rule tok H1 (v := .int .i64 f) rfl ?_
  refine brd (fun _ => ?_) (fun q => absurd hf q)
  refine load_rule tok H1 (v := .int .i64 i) rfl ?_
  refine brd (fun _ => ?_) (fun q => absurd hi q)
  refine load_rule tok H1 (v := .int .i64 p) rfl ?_
  refine Exists.intro () (And.intro ?_ (And.intro trivial (Hp.keep H1)))
  exact congrArg Value.bool (decide_eq_true hp)
def mn (a b : Int) : Int := if b < a then b else a
theorem mn_bd {a b : Int} (ha : 0 ≤ a) (hb : 0 ≤ b) : 0 ≤ mn a b ∧ mn a b ≤ a ∧ mn a b ≤ b := by unfold mn; split <;> omega
theorem least (a b : Int) : CB 98 [.int .i64 a, .int .i64 b] (.int .i64 (mn a b)) := by
  intro w M I H
  refine Exe.of_ev tok Tryz.call98 Tryz.func98 rfl rfl rfl ?_
  exact Exists.intro () (And.intro rfl (And.intro trivial (Hp.keep H)))
theorem part_ (a b : Int) (ha : 0 ≤ a) (hb : 0 ≤ b) (hb2 : b ≤ 9000000000000000000) : CB 246 [.int .i64 a, .int .i64 b] (.tuple #[.int .i64 (mn a b), .int .i64 (b - mn a b)]) := by
  intro w M I H
  have h := mn_bd ha hb
  have e : IntKind.i64.wrap (b - mn a b) = b - mn a b := i64w (by omega) (by omega)
  refine Exe.of_ev tok Tryz.call246 Tryz.func246 rfl rfl rfl ?_
  refine call_rule H (fun M I _ h => least a b _ M I h) fun _ w1 _ H1 => ?_
  refine Exists.intro () (And.intro ?_ (And.intro trivial (Hp.keep H1)))
  show Value.tuple #[.int .i64 (mn a b), .int .i64 (IntKind.i64.wrap (b - mn a b))] = _
  rw [e]
/-- What of n goes to fees, to interest, to principal, and what is left. -/
def goF (f n : Int) : Int := mn f n
def goI (f i n : Int) : Int := mn i (n - goF f n)
def goP (f i p n : Int) : Int := mn p (n - goF f n - goI f i n)
def goL (f i p n : Int) : Int := n - goF f n - goI f i n - goP f i p n
structure PayB (f i p n : Int) : Prop where
  hf : 0 ≤ goF f n ∧ goF f n ≤ f ∧ goF f n ≤ n
  hi : 0 ≤ goI f i n ∧ goI f i n ≤ i ∧ goI f i n ≤ n
  hp : 0 ≤ goP f i p n ∧ goP f i p n ≤ p ∧ goP f i p n ≤ n
  hl : 0 ≤ goL f i p n ∧ goL f i p n ≤ n
  hs : goF f n + goI f i n + goP f i p n + goL f i p n = n
theorem pay_bd {f i p n : Int} (hf : 0 ≤ f) (hi : 0 ≤ i) (hp : 0 ≤ p) (hn : 0 ≤ n) : PayB f i p n := by
  have h1 := mn_bd hf hn
  have h2 := mn_bd hi (show 0 ≤ n - goF f n by unfold goF; omega)
  have h3 := mn_bd hp (show 0 ≤ n - goF f n - goI f i n by unfold goI; omega)
  have e1 : goF f n = mn f n := rfl
  have e2 : goI f i n = mn i (n - goF f n) := rfl
  have e3 : goP f i p n = mn p (n - goF f n - goI f i n) := rfl
  have e4 : goL f i p n = n - goF f n - goI f i n - goP f i p n := rfl
  exact ⟨by omega, by omega, by omega, by omega, by omega⟩
theorem from0 (f i p n : Int) (hf : 0 ≤ f) (hi : 0 ≤ i) (hp : 0 ≤ p) (hn : 0 ≤ n) (hn2 : n ≤ 9000000000000000000) : CB 217 [owV f i p, .int .u8 0, .int .i64 n] (.tuple #[owV (goF f n) (goI f i n) (goP f i p n), .int .i64 (goL f i p n), .nilIface]) := by
  intro w M I H
  have hb := pay_bd hf hi hp hn
  have b1 := hb.hf
  have b2 := hb.hi
  have b3 := hb.hp
  have e4 : goL f i p n = n - goF f n - goI f i n - goP f i p n := rfl
  have b4 := hb.hl
  refine Exe.of_ev tok Tryz.call217 Tryz.func217 rfl rfl rfl ?_
  refine box_as H (owC f i p) rfl fun r w1 H1 => ?_
  refine alloc_as tok H1 (owC 0 0 0) rfl rfl rfl fun o w2 H2 => ?_
  refine load_rule tok H2 (v := owV f i p) rfl ?_
  refine call_rule H2 (fun M I _ h => owRight f i p hf hi hp _ M I h) fun _ w3 _ H3 => ?_
  refine brd (fun q => absurd hn (Int.not_le.2 q)) (fun _ => ?_)
  refine alloc_as tok H3 (owC 0 0 0) rfl rfl rfl fun u w4 H4 => ?_
  refine load_rule tok H4 (v := .int .i64 f) rfl ?_
  refine call_rule H4 (fun M I _ h => part_ f n hf hn hn2 _ M I h) fun _ w5 _ H5 => ?_
  refine store_as tok H5 (owC (goF f n) 0 0) rfl rfl rfl rfl rfl fun w6 H6 => ?_
  refine load_rule tok H6 (v := .int .i64 i) rfl ?_
  refine call_rule H6 (fun M I _ h => part_ i (n - goF f n) hi (by omega) (by omega) _ M I h) fun _ w7 _ H7 => ?_
  refine store_as tok H7 (owC (goF f n) (goI f i n) 0) rfl rfl rfl rfl rfl fun w8 H8 => ?_
  refine load_rule tok H8 (v := .int .i64 p) rfl ?_
  refine call_rule H8 (fun M I _ h => part_ p (n - goF f n - goI f i n) hp (by omega) (by omega) _ M I h) fun _ w9 _ H9 => ?_
  refine store_as tok H9 (owC (goF f n) (goI f i n) (goP f i p n)) rfl rfl rfl rfl rfl fun w10 H10 => ?_
  refine load_rule tok H10 (v := owV (goF f n) (goI f i n) (goP f i p n)) rfl ?_
  refine store_as tok H10 (owC (goF f n) (goI f i n) (goP f i p n)) rfl rfl rfl rfl rfl fun w11 H11 => ?_
  refine Exists.intro ⟨o, 0, none⟩ (Exists.intro (owV (goF f n) (goI f i n) (goP f i p n)) (And.intro rfl (And.intro (Hp.ld (T := tb) tok H11 rfl) ?_)))
  exact Exists.intro () (And.intro rfl (And.intro trivial (Hp.keep H11)))
theorem splitPay (f i p n : Int) (hf : 0 ≤ f) (hi : 0 ≤ i) (hp : 0 ≤ p) (hn : 0 ≤ n) (hn2 : n ≤ 9000000000000000000) : CB 161 [owV f i p, .int .i64 n] (.tuple #[owV (goF f n) (goI f i n) (goP f i p n), .int .i64 (goL f i p n), .nilIface]) := by
  intro w M I H
  refine Exe.of_ev tok Tryz.call161 Tryz.func161 rfl rfl rfl ?_
  refine box_as H (owC f i p) rfl fun r w1 H1 => ?_
  refine alloc_as tok H1 (owC 0 0 0) rfl rfl rfl fun o w2 H2 => ?_
  refine load_rule tok H2 (v := owV f i p) rfl ?_
  refine call_rule H2 (fun M I _ h => from0 f i p n hf hi hp hn hn2 _ M I h) fun _ w3 _ H3 => ?_
  refine store_as tok H3 (owC (goF f n) (goI f i n) (goP f i p n)) rfl rfl rfl rfl rfl fun w4 H4 => ?_
  refine Exists.intro ⟨o, 0, none⟩ (Exists.intro (owV (goF f n) (goI f i n) (goP f i p n)) (And.intro rfl (And.intro (Hp.ld (T := tb) tok H4 rfl) ?_)))
  exact Exists.intro () (And.intro rfl (And.intro trivial (Hp.keep H4)))
theorem splitLess (f i p a b c : Int) (hf : 0 ≤ a ∧ a ≤ f ∧ f ≤ 9000000000000000000) (hi : 0 ≤ b ∧ b ≤ i ∧ i ≤ 9000000000000000000) (hp : 0 ≤ c ∧ c ≤ p ∧ p ≤ 9000000000000000000) : CB 162 [owV f i p, owV a b c] (.tuple #[owV (f - a) (i - b) (p - c), .nilIface]) := by
  intro w M I H
  have e1 : IntKind.i64.wrap (f - a) = f - a := i64w (by omega) (by omega)
  have e2 : IntKind.i64.wrap (i - b) = i - b := i64w (by omega) (by omega)
  have e3 : IntKind.i64.wrap (p - c) = p - c := i64w (by omega) (by omega)
  refine Exe.of_ev tok Tryz.call162 Tryz.func162 rfl rfl rfl ?_
  refine box_as H (owC f i p) rfl fun r w1 H1 => ?_
  refine box_as H1 (owC a b c) rfl fun s w2 H2 => ?_
  refine alloc_as tok H2 (owC 0 0 0) rfl rfl rfl fun o w3 H3 => ?_
  refine load_rule tok H3 (v := .int .i64 f) rfl ?_
  refine load_rule tok H3 (v := .int .i64 a) rfl ?_
  refine load_rule tok H3 (v := .int .i64 i) rfl ?_
  refine load_rule tok H3 (v := .int .i64 b) rfl ?_
  refine load_rule tok H3 (v := .int .i64 p) rfl ?_
  refine load_rule tok H3 (v := .int .i64 c) rfl ?_
  refine alloc_as tok H3 (owC 0 0 0) rfl rfl rfl fun u w4 H4 => ?_
  refine store_as tok H4 (owC (IntKind.i64.wrap (f - a)) (IntKind.i64.wrap (i - b)) (IntKind.i64.wrap (p - c))) rfl rfl rfl rfl rfl fun w5 H5 => ?_
  rw [e1, e2, e3] at H5
  refine load_rule tok H5 (v := owV f i p) rfl ?_
  refine call_rule H5 (fun M I _ h => owRight f i p (by omega) (by omega) (by omega) _ M I h) fun _ w6 _ H6 => ?_
  refine load_rule tok H6 (v := owV a b c) rfl ?_
  refine call_rule H6 (fun M I _ h => owRight a b c hf.1 hi.1 hp.1 _ M I h) fun _ w7 _ H7 => ?_
  refine load_rule tok H7 (v := owV (f - a) (i - b) (p - c)) rfl ?_
  refine call_rule H7 (fun M I _ h => owRight (f - a) (i - b) (p - c) (by omega) (by omega) (by omega) _ M I h) fun _ w8 _ H8 => ?_
  refine load_rule tok H8 (v := owV (f - a) (i - b) (p - c)) rfl ?_
  refine store_as tok H8 (owC (f - a) (i - b) (p - c)) rfl rfl rfl rfl rfl fun w9 H9 => ?_
  refine Exists.intro ⟨o, 0, none⟩ (Exists.intro (owV (f - a) (i - b) (p - c)) (And.intro rfl (And.intro (Hp.ld (T := tb) tok H9 rfl) ?_)))
  exact Exists.intro () (And.intro rfl (And.intro trivial (Hp.keep H9)))
@[reducible] def ptL (f i p : Int) : List Leg := [⟨4, -f⟩, ⟨3, -i⟩, ⟨2, -p⟩]
theorem neg64 {n : Int} (h : 0 ≤ n) (h2 : n ≤ 9000000000000000000) : IntKind.i64.wrap (0 - n) = -n := by rw [i64w (by omega) (by omega)]; omega
theorem parts_ (f i p : Int) (hf : 0 ≤ f ∧ f ≤ 9000000000000000000) (hi : 0 ≤ i ∧ i ≤ 9000000000000000000) (hp : 0 ≤ p ∧ p ≤ 9000000000000000000) (w : World) (M I : BS) (H : Hp ⟨w, M, I⟩ [] [] w) :
    Ctr Tryz.prog 99 [owV f i p] w M I (fun g : Nat => .slice (some ⟨g, 0, none⟩) 3 3) (fun _ => True) (fun g => [Fr w.heap.size (row 135 2 (.slice (some ⟨g, 0, none⟩) 3 3) 3 (legsC (ptL f i p)))]) (fun _ => []) := by
  have e1 := neg64 hf.1 hf.2
  have e2 := neg64 hi.1 hi.2
  have e3 := neg64 hp.1 hp.2
  refine Exe.of_ev tok Tryz.call99 Tryz.func99 rfl rfl rfl ?_
  refine box_as H (owC f i p) rfl fun r w1 H1 => ?_
  refine load_rule tok H1 (v := .int .i64 f) rfl ?_
  refine load_rule tok H1 (v := .int .i64 i) rfl ?_
  refine load_rule tok H1 (v := .int .i64 p) rfl ?_
  refine buildSlice_fr tok H1 (cs := [.int .u8 4, .int .i64 (IntKind.i64.wrap (0 - f)), .int .u8 3, .int .i64 (IntKind.i64.wrap (0 - i)), .int .u8 2, .int .i64 (IntKind.i64.wrap (0 - p))]) rfl rfl rfl rfl rfl rfl fun g w2 H2 => ?_
  rw [e1, e2, e3] at H2
  have H3 := Hp.frRow (cs := legsC (ptL f i p)) H2 2 3 rfl (by decide)
  exact Exists.intro g (And.intro rfl (And.intro trivial (Hp.keep H3)))
end Go.Proofs.YtjlfjjgjghdokaaGreatDoor
