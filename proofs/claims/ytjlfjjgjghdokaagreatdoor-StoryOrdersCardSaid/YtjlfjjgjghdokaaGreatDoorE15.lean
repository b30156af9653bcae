/- The events of deeds, as they stand and turned about: the walks. Printed by gen15.py. -/
import Derived.Test.YtjlfjjgjghdokaaGreatDoorE13
set_option linter.unusedVariables false
namespace Go.Proofs.YtjlfjjgjghdokaaGreatDoor
open Go Go.Proofs Go.Wk
structure Deed where
  kind : Int
  beh : Int
  amt : Int
instance : Inhabited Deed := ⟨⟨0, 0, 0⟩⟩
@[reducible] def deedR : Rp Deed := ⟨3, Unit, fun x _ => [.int .u8 x.kind, .int .u16 x.beh, .int .u32 x.amt], fun x _ => inK .u8 x.kind ∧ inK .u16 x.beh ∧ inK .u32 x.amt, fun _ _ => [], fun _ _ => rfl⟩
def evOf (t : Tm) (d : Deed) (k : Nat) : Ev := ⟨(k : Int) + 1, t.start + d.beh % 120, 4 + d.kind % 4, if 4 + d.kind % 4 = 7 then 0 else 1 + d.amt⟩
/-- As they stand: the first i. -/
def evL (t : Tm) (ds : List Deed) (n : Nat) : List Ev := (List.range n).map fun j => evOf t (ds[j]?.getD default) j
@[reducible] def evLG (t : Tm) (ds : List Deed) (m i : Nat) : List Ev := evL t ds i
def evTG (t : Tm) (ds : List Deed) (m i : Nat) : List Ev := (List.range i).map fun j => evOf t (ds[m - 1 - j]?.getD default) (m - 1 - j)
@[reducible] def evT (t : Tm) (ds : List Deed) (n : Nat) : List Ev := evTG t ds n n
theorem evL_snoc (t : Tm) (ds : List Deed) (m i : Nat) {d : Deed} (h : ds[i]? = some d) : evL t ds (i + 1) = evL t ds i ++ [evOf t d i] := by
  unfold evL
  rw [List.range_succ, List.map_append, List.map_cons, List.map_nil, h]
  rfl
theorem evT_snoc (t : Tm) (ds : List Deed) (m i : Nat) (hi : i < m) {d : Deed} (h : ds[m - 1 - i]? = some d) : evTG t ds m (i + 1) = evTG t ds m i ++ [evOf t d (m - 1 - i)] := by
  unfold evTG
  rw [List.range_succ, List.map_append, List.map_cons, List.map_nil, h]
  rfl
set_option maxRecDepth 20000 in
set_option maxHeartbeats 1000000 in
theorem eventsL (t : Tm) (hst : 0 ≤ t.start ∧ t.start ≤ 3600000) (A : Option Addr) (n c : Nat) (ds : List Deed) (w : World) (M I : BS) (H : Hp ⟨w, M, I⟩ [] [Sl deedR (.slice A n c) ds] w) :
    Ctr Tryz.prog 18 [.slice A n c, tmV t, .bool false] w M I (fun a : SV × SV => .tuple #[.slice a.1.A a.1.n a.1.c, .slice a.2.A a.2.n a.2.c]) (fun a => a.1.n = min ds.length 12) (fun a => [row 65 4 (.slice a.1.A a.1.n a.1.c) a.1.n (evsC (evL t ds (min ds.length 12)))]) (fun _ => []) := by
  obtain ⟨hn, hc, hc2⟩ := H.sll (A := A) (n := n) (c := c)
  have em : (if (12 : Int) < (n : Int) then (12 : Int) else (n : Int)) = ((min ds.length 12 : Nat) : Int) := by split <;> omega
  refine Exists.elim (show ∃ m, m = min ds.length 12 from ⟨_, rfl⟩) fun m hm => ?_
  rw [← hm] at em ⊢
  have hm12 : m ≤ 12 := by omega
  have hmn : m ≤ n := by omega
  refine Exe.of_ev tok Tryz.call18 Tryz.func18 rfl rfl rfl ?_
  refine box_as H (tmC t) rfl fun tb w1 H1 => ?_
  have H2 : Hp ⟨w, M, I⟩ [row 65 4 (.slice none 0 0) 0 [], row 132 4 (.slice none 0 0) 0 [], blk tb (tmC t) 28] [Sl deedR (.slice A n c) ds] w1 := Hp.keep (Hp.nil (Hp.nil H1 132 4) 65 4)
  refine loop_rule tok (σ := Nat × SV × SV × List Value) 9444732965739289934592 (fun s => [(19, .int .i64 (s.1 : Int)), (8, .slice s.2.1.A s.2.1.n s.2.1.c), (9, .slice s.2.2.1.A s.2.2.1.n s.2.2.1.c)])
    (fun s w' => s.1 ≤ m ∧ s.2.1.n = s.1 ∧ s.2.2.1.n = s.1 ∧ Hp ⟨w, M, I⟩ [row 65 4 (.slice s.2.1.A s.2.1.n s.2.1.c) s.2.1.n (evsC (evLG t ds m s.1)), row 132 4 (.slice s.2.2.1.A s.2.2.1.n s.2.2.1.c) s.2.2.1.n s.2.2.2, blk tb (tmC t) 28] [Sl deedR (.slice A n c) ds] w') (fun s => m - s.1) (0, ⟨none, 0, 0⟩, ⟨none, 0, 0⟩, []) rfl rfl ⟨rfl, rfl, rfl, trivial⟩ ⟨Nat.zero_le _, rfl, rfl, H2⟩ ?_
  intro s j w2 hW
  refine Exists.elim (show ∃ i, i = s.1 from ⟨_, rfl⟩) fun i ei => ?_
  have hi := hW.1
  have hn1 := hW.2.1
  have hn2 := hW.2.2.1
  have H3 := hW.2.2.2
  rw [← ei] at hi hn1 hn2 H3
  have ew : IntKind.i64.wrap ((s.1 : Int) + 1) = ((s.1 + 1 : Nat) : Int) := w64 (by omega) (by omega)
  refine brd (fun q => ?_) (fun q => ?_)
  · rw [em] at q
    have hi2 : i < m := by omega
    have hj : (s.1 : Int) = ((i : Nat) : Int) := by rw [ei]
    have hjn : (i) < n := by omega
    have hj0 : 0 ≤ (s.1 : Int) := by rw [hj]; omega
    have hj1 : (s.1 : Int) < (n : Int) := by rw [hj]; omega
    refine idx_rule tok H3 rfl rfl rfl hj0 hj1 fun eb eo d hd H4 => ?_
    rw [hj] at hd
    have hd : ds[i]? = some d := hd
    refine ldp_rule tok H4 rfl rfl rfl fun _ hok H5 => ?_
    have hk := hok.1
    have hbh := hok.2.1
    have hka : 0 ≤ d.kind ∧ d.kind ≤ 255 := hk
    have hba : 0 ≤ d.beh ∧ d.beh ≤ 65535 := hbh
    have haa : 0 ≤ d.amt ∧ d.amt ≤ 4294967295 := hok.2.2
    refine alloc_as tok H5 [.int .u8 0, .int .u16 0, .int .u32 0] rfl rfl rfl fun db w3 H6 => ?_
    refine store_as tok H6 [.int .u8 d.kind, .int .u16 d.beh, .int .u32 d.amt] rfl rfl rfl rfl rfl fun w4 H7 => ?_
    refine load_rule tok H7 (v := .int .i32 t.start) rfl ?_
    refine load_rule tok H7 (v := .int .u16 d.beh) rfl ?_
    refine rem_as (d.beh % 120) (by decide) (Int.tmod_eq_emod_of_nonneg hba.1) ?_
    refine load_rule tok H7 (v := .int .u8 d.kind) rfl ?_
    refine rem_as (d.kind % 4) (by decide) (Int.tmod_eq_emod_of_nonneg hka.1) ?_
    refine load_rule tok H7 (v := .int .u32 d.amt) rfl ?_
    have e1 : IntKind.u32.wrap (IntKind.i64.wrap ((s.1 : Int) + 1)) = ((i : Nat) : Int) + 1 := by rw [hj, i64w (by omega) (by omega)]; exact u32_of (x := i + 1) (by omega)
    have e2 : IntKind.i32.wrap (t.start + IntKind.i32.wrap (d.beh % 120)) = t.start + d.beh % 120 := by rw [i32w (n := d.beh % 120) (by omega) (by omega)]; exact i32w (by omega) (by omega)
    have e3 : IntKind.u8.wrap (4 + d.kind % 4) = 4 + d.kind % 4 := wrap_id ⟨by show (0 : Int) ≤ _; omega, by show _ ≤ (255 : Int); omega⟩
    have e4 : IntKind.i64.wrap (1 + IntKind.i64.wrap d.amt) = 1 + d.amt := by rw [i64w (n := d.amt) (by omega) (by omega)]; exact i64w (by omega) (by omega)
    have ed : IntKind.i64.wrap (t.start + d.beh % 120) = t.start + d.beh % 120 := i64w (by omega) (by omega)
    refine alloc_as tok H7 (evC ⟨0, 0, 0, 0⟩) rfl rfl rfl fun vb w5 H8 => ?_
    refine store_as tok H8 [.int .u32 (IntKind.u32.wrap (IntKind.i64.wrap ((s.1 : Int) + 1))), .int .i32 (IntKind.i32.wrap (t.start + IntKind.i32.wrap (d.beh % 120))), .int .u8 (IntKind.u8.wrap (4 + d.kind % 4)), .int .i64 (IntKind.i64.wrap (1 + IntKind.i64.wrap d.amt))] rfl rfl rfl rfl rfl fun w6 H9 => ?_
    rw [e1, e2, e3, e4] at H9
    have H9 : Hp ⟨w, M, I⟩ [blk vb [.int .u32 (((i : Nat) : Int) + 1), .int .i32 (t.start + d.beh % 120), .int .u8 (4 + d.kind % 4), .int .i64 (1 + d.amt)] 65, row 65 4 (.slice s.2.1.A s.2.1.n s.2.1.c) s.2.1.n (evsC (evLG t ds m i)), row 132 4 (.slice s.2.2.1.A s.2.2.1.n s.2.2.1.c) s.2.2.1.n s.2.2.2, blk tb (tmC t) 28] [Sl deedR (.slice A n c) ds] w6 := Hp.keep H9
    refine load_rule tok H9 (v := .int .u8 (4 + d.kind % 4)) rfl ?_
    have evd : evLG t ds m (i + 1) = evLG t ds m i ++ [evOf t d (i)] := evL_snoc t ds m i hd
    refine br (fun q7 => ?_) (fun q7 => ?_)
    · have q7 : 4 + d.kind % 4 = 7 := eq_of_beq q7
      refine store_as tok H9 [.int .u32 (((i : Nat) : Int) + 1), .int .i32 (t.start + d.beh % 120), .int .u8 (4 + d.kind % 4), .int .i64 0] rfl rfl rfl rfl rfl fun w7 H10 => ?_
      have eo : (⟨((i : Nat) : Int) + 1, t.start + d.beh % 120, 4 + d.kind % 4, 0⟩ : Ev) = evOf t d (i) := by unfold evOf; rw [if_pos q7]
      refine load_rule tok H10 (v := evV ⟨((i : Nat) : Int) + 1, t.start + d.beh % 120, 4 + d.kind % 4, 0⟩) rfl ?_
      refine slice_as tok H10 (evC ⟨((i : Nat) : Int) + 1, t.start + d.beh % 120, 4 + d.kind % 4, 0⟩) rfl rfl rfl rfl rfl rfl fun g w8 H11 => ?_
      refine append_rule (v := .slice s.2.1.A s.2.1.n s.2.1.c) (b := g) (m := 1) (c := 1) tok H11 rfl rfl rfl rfl rfl rfl rfl rfl (by show (s.2.1.n + 1) * 24 ≤ _; omega) (by omega) fun A2 c2 w9 H12 => ?_
      have es : evsC (evLG t ds m i) ++ evC ⟨((i : Nat) : Int) + 1, t.start + d.beh % 120, 4 + d.kind % 4, 0⟩ = evsC (evLG t ds m (i + 1)) := by rw [evd, evsC_app, ← eo]; rfl
      rw [es] at H12
      refine load_rule tok H12 (v := .int .u32 (((i : Nat) : Int) + 1)) rfl ?_
      refine load_rule tok H12 (v := .int .i32 (t.start + d.beh % 120)) rfl ?_
      refine load_rule tok H12 (v := .int .u8 (4 + d.kind % 4)) rfl ?_
      refine load_rule tok H12 (v := .int .i64 (0)) rfl ?_
      refine slice_as tok H12 [.int .u32 (((i : Nat) : Int) + 1), .int .i64 (IntKind.i64.wrap (t.start + d.beh % 120)), .int .u8 (4 + d.kind % 4), .int .i64 (0)] rfl rfl rfl rfl rfl rfl fun g2 wa H13 => ?_
      refine append_rule (v := .slice s.2.2.1.A s.2.2.1.n s.2.2.1.c) (b := g2) (m := 1) (c := 1) tok H13 rfl rfl rfl rfl rfl rfl rfl rfl (by show (s.2.2.1.n + 1) * 32 ≤ _; omega) (by omega) fun A3 c3 wb H14 => ?_
      refine Exists.intro (s.1 + 1, ⟨A2, s.2.1.n + 1, c2⟩, ⟨A3, s.2.2.1.n + 1, c3⟩, s.2.2.2 ++ [.int .u32 (((i : Nat) : Int) + 1), .int .i64 (IntKind.i64.wrap (t.start + d.beh % 120)), .int .u8 (4 + d.kind % 4), .int .i64 (0)]) (And.intro ⟨congrArg (Value.int .i64) ew, rfl, rfl, trivial⟩ (And.intro ?_ ⟨?_, ?_, ?_, ?_⟩))
      · show m - (s.1 + 1) < m - s.1
        omega
      · show s.1 + 1 ≤ m
        omega
      · show s.2.1.n + 1 = s.1 + 1
        omega
      · show s.2.2.1.n + 1 = s.1 + 1
        omega
      · show Hp ⟨w, M, I⟩ [row 65 4 (.slice A2 (s.2.1.n + 1) c2) (s.2.1.n + 1) (evsC (evLG t ds m (s.1 + 1))), row 132 4 (.slice A3 (s.2.2.1.n + 1) c3) (s.2.2.1.n + 1) (s.2.2.2 ++ [.int .u32 (((i : Nat) : Int) + 1), .int .i64 (IntKind.i64.wrap (t.start + d.beh % 120)), .int .u8 (4 + d.kind % 4), .int .i64 (0)]), blk tb (tmC t) 28] [Sl deedR (.slice A n c) ds] wb
        rw [← ei]
        exact Hp.keep H14
    · have q7 : 4 + d.kind % 4 ≠ 7 := ne_of_beq_false q7
      have H10 := H9
      have eo : (⟨((i : Nat) : Int) + 1, t.start + d.beh % 120, 4 + d.kind % 4, 1 + d.amt⟩ : Ev) = evOf t d (i) := by unfold evOf; rw [if_neg q7]
      refine load_rule tok H10 (v := evV ⟨((i : Nat) : Int) + 1, t.start + d.beh % 120, 4 + d.kind % 4, 1 + d.amt⟩) rfl ?_
      refine slice_as tok H10 (evC ⟨((i : Nat) : Int) + 1, t.start + d.beh % 120, 4 + d.kind % 4, 1 + d.amt⟩) rfl rfl rfl rfl rfl rfl fun g w8 H11 => ?_
      refine append_rule (v := .slice s.2.1.A s.2.1.n s.2.1.c) (b := g) (m := 1) (c := 1) tok H11 rfl rfl rfl rfl rfl rfl rfl rfl (by show (s.2.1.n + 1) * 24 ≤ _; omega) (by omega) fun A2 c2 w9 H12 => ?_
      have es : evsC (evLG t ds m i) ++ evC ⟨((i : Nat) : Int) + 1, t.start + d.beh % 120, 4 + d.kind % 4, 1 + d.amt⟩ = evsC (evLG t ds m (i + 1)) := by rw [evd, evsC_app, ← eo]; rfl
      rw [es] at H12
      refine load_rule tok H12 (v := .int .u32 (((i : Nat) : Int) + 1)) rfl ?_
      refine load_rule tok H12 (v := .int .i32 (t.start + d.beh % 120)) rfl ?_
      refine load_rule tok H12 (v := .int .u8 (4 + d.kind % 4)) rfl ?_
      refine load_rule tok H12 (v := .int .i64 (1 + d.amt)) rfl ?_
      refine slice_as tok H12 [.int .u32 (((i : Nat) : Int) + 1), .int .i64 (IntKind.i64.wrap (t.start + d.beh % 120)), .int .u8 (4 + d.kind % 4), .int .i64 (1 + d.amt)] rfl rfl rfl rfl rfl rfl fun g2 wa H13 => ?_
      refine append_rule (v := .slice s.2.2.1.A s.2.2.1.n s.2.2.1.c) (b := g2) (m := 1) (c := 1) tok H13 rfl rfl rfl rfl rfl rfl rfl rfl (by show (s.2.2.1.n + 1) * 32 ≤ _; omega) (by omega) fun A3 c3 wb H14 => ?_
      refine Exists.intro (s.1 + 1, ⟨A2, s.2.1.n + 1, c2⟩, ⟨A3, s.2.2.1.n + 1, c3⟩, s.2.2.2 ++ [.int .u32 (((i : Nat) : Int) + 1), .int .i64 (IntKind.i64.wrap (t.start + d.beh % 120)), .int .u8 (4 + d.kind % 4), .int .i64 (1 + d.amt)]) (And.intro ⟨congrArg (Value.int .i64) ew, rfl, rfl, trivial⟩ (And.intro ?_ ⟨?_, ?_, ?_, ?_⟩))
      · show m - (s.1 + 1) < m - s.1
        omega
      · show s.1 + 1 ≤ m
        omega
      · show s.2.1.n + 1 = s.1 + 1
        omega
      · show s.2.2.1.n + 1 = s.1 + 1
        omega
      · show Hp ⟨w, M, I⟩ [row 65 4 (.slice A2 (s.2.1.n + 1) c2) (s.2.1.n + 1) (evsC (evLG t ds m (s.1 + 1))), row 132 4 (.slice A3 (s.2.2.1.n + 1) c3) (s.2.2.1.n + 1) (s.2.2.2 ++ [.int .u32 (((i : Nat) : Int) + 1), .int .i64 (IntKind.i64.wrap (t.start + d.beh % 120)), .int .u8 (4 + d.kind % 4), .int .i64 (1 + d.amt)]), blk tb (tmC t) 28] [Sl deedR (.slice A n c) ds] wb
        rw [← ei]
        exact Hp.keep H14
  · rw [em] at q
    have him : i = m := by omega
    refine Exists.intro (s.2.1, s.2.2.1) (And.intro rfl (And.intro (by show s.2.1.n = m; omega) ?_))
    rw [him] at H3
    exact Hp.keep H3
set_option maxRecDepth 20000 in
set_option maxHeartbeats 1000000 in
theorem eventsT (t : Tm) (hst : 0 ≤ t.start ∧ t.start ≤ 3600000) (A : Option Addr) (n c : Nat) (ds : List Deed) (w : World) (M I : BS) (H : Hp ⟨w, M, I⟩ [] [Sl deedR (.slice A n c) ds] w) :
    Ctr Tryz.prog 18 [.slice A n c, tmV t, .bool true] w M I (fun a : SV × SV => .tuple #[.slice a.1.A a.1.n a.1.c, .slice a.2.A a.2.n a.2.c]) (fun a => a.1.n = min ds.length 12) (fun a => [row 65 4 (.slice a.1.A a.1.n a.1.c) a.1.n (evsC (evT t ds (min ds.length 12)))]) (fun _ => []) := by
  obtain ⟨hn, hc, hc2⟩ := H.sll (A := A) (n := n) (c := c)
  have em : (if (12 : Int) < (n : Int) then (12 : Int) else (n : Int)) = ((min ds.length 12 : Nat) : Int) := by split <;> omega
  refine Exists.elim (show ∃ m, m = min ds.length 12 from ⟨_, rfl⟩) fun m hm => ?_
  rw [← hm] at em ⊢
  have hm12 : m ≤ 12 := by omega
  have hmn : m ≤ n := by omega
  refine Exe.of_ev tok Tryz.call18 Tryz.func18 rfl rfl rfl ?_
  refine box_as H (tmC t) rfl fun tb w1 H1 => ?_
  have H2 : Hp ⟨w, M, I⟩ [row 65 4 (.slice none 0 0) 0 [], row 132 4 (.slice none 0 0) 0 [], blk tb (tmC t) 28] [Sl deedR (.slice A n c) ds] w1 := Hp.keep (Hp.nil (Hp.nil H1 132 4) 65 4)
  refine loop_rule tok (σ := Nat × SV × SV × List Value) 9444732965739289934592 (fun s => [(19, .int .i64 (s.1 : Int)), (8, .slice s.2.1.A s.2.1.n s.2.1.c), (9, .slice s.2.2.1.A s.2.2.1.n s.2.2.1.c)])
    (fun s w' => s.1 ≤ m ∧ s.2.1.n = s.1 ∧ s.2.2.1.n = s.1 ∧ Hp ⟨w, M, I⟩ [row 65 4 (.slice s.2.1.A s.2.1.n s.2.1.c) s.2.1.n (evsC (evTG t ds m s.1)), row 132 4 (.slice s.2.2.1.A s.2.2.1.n s.2.2.1.c) s.2.2.1.n s.2.2.2, blk tb (tmC t) 28] [Sl deedR (.slice A n c) ds] w') (fun s => m - s.1) (0, ⟨none, 0, 0⟩, ⟨none, 0, 0⟩, []) rfl rfl ⟨rfl, rfl, rfl, trivial⟩ ⟨Nat.zero_le _, rfl, rfl, H2⟩ ?_
  intro s j w2 hW
  refine Exists.elim (show ∃ i, i = s.1 from ⟨_, rfl⟩) fun i ei => ?_
  have hi := hW.1
  have hn1 := hW.2.1
  have hn2 := hW.2.2.1
  have H3 := hW.2.2.2
  rw [← ei] at hi hn1 hn2 H3
  have ew : IntKind.i64.wrap ((s.1 : Int) + 1) = ((s.1 + 1 : Nat) : Int) := w64 (by omega) (by omega)
  refine brd (fun q => ?_) (fun q => ?_)
  · rw [em] at q
    have hi2 : i < m := by omega
    have hj : IntKind.i64.wrap (IntKind.i64.wrap ((if (12 : Int) < (n : Int) then (12 : Int) else (n : Int)) - 1) - (s.1 : Int)) = ((m - 1 - i : Nat) : Int) := by rw [em, ← ei, i64w (n := (m : Int) - 1) (by omega) (by omega)]; rw [i64w (by omega) (by omega)]; omega
    have hjn : (m - 1 - i) < n := by omega
    have hj0 : 0 ≤ IntKind.i64.wrap (IntKind.i64.wrap ((if (12 : Int) < (n : Int) then (12 : Int) else (n : Int)) - 1) - (s.1 : Int)) := by rw [hj]; omega
    have hj1 : IntKind.i64.wrap (IntKind.i64.wrap ((if (12 : Int) < (n : Int) then (12 : Int) else (n : Int)) - 1) - (s.1 : Int)) < (n : Int) := by rw [hj]; omega
    refine idx_rule tok H3 rfl rfl rfl hj0 hj1 fun eb eo d hd H4 => ?_
    rw [hj] at hd
    have hd : ds[m - 1 - i]? = some d := hd
    refine ldp_rule tok H4 rfl rfl rfl fun _ hok H5 => ?_
    have hk := hok.1
    have hbh := hok.2.1
    have hka : 0 ≤ d.kind ∧ d.kind ≤ 255 := hk
    have hba : 0 ≤ d.beh ∧ d.beh ≤ 65535 := hbh
    have haa : 0 ≤ d.amt ∧ d.amt ≤ 4294967295 := hok.2.2
    refine alloc_as tok H5 [.int .u8 0, .int .u16 0, .int .u32 0] rfl rfl rfl fun db w3 H6 => ?_
    refine store_as tok H6 [.int .u8 d.kind, .int .u16 d.beh, .int .u32 d.amt] rfl rfl rfl rfl rfl fun w4 H7 => ?_
    refine load_rule tok H7 (v := .int .i32 t.start) rfl ?_
    refine load_rule tok H7 (v := .int .u16 d.beh) rfl ?_
    refine rem_as (d.beh % 120) (by decide) (Int.tmod_eq_emod_of_nonneg hba.1) ?_
    refine load_rule tok H7 (v := .int .u8 d.kind) rfl ?_
    refine rem_as (d.kind % 4) (by decide) (Int.tmod_eq_emod_of_nonneg hka.1) ?_
    refine load_rule tok H7 (v := .int .u32 d.amt) rfl ?_
    have e1 : IntKind.u32.wrap (IntKind.i64.wrap (IntKind.i64.wrap (IntKind.i64.wrap ((if (12 : Int) < (n : Int) then (12 : Int) else (n : Int)) - 1) - (s.1 : Int)) + 1)) = ((m - 1 - i : Nat) : Int) + 1 := by rw [hj, i64w (by omega) (by omega)]; exact u32_of (x := m - 1 - i + 1) (by omega)
    have e2 : IntKind.i32.wrap (t.start + IntKind.i32.wrap (d.beh % 120)) = t.start + d.beh % 120 := by rw [i32w (n := d.beh % 120) (by omega) (by omega)]; exact i32w (by omega) (by omega)
    have e3 : IntKind.u8.wrap (4 + d.kind % 4) = 4 + d.kind % 4 := wrap_id ⟨by show (0 : Int) ≤ _; omega, by show _ ≤ (255 : Int); omega⟩
    have e4 : IntKind.i64.wrap (1 + IntKind.i64.wrap d.amt) = 1 + d.amt := by rw [i64w (n := d.amt) (by omega) (by omega)]; exact i64w (by omega) (by omega)
    have ed : IntKind.i64.wrap (t.start + d.beh % 120) = t.start + d.beh % 120 := i64w (by omega) (by omega)
    refine alloc_as tok H7 (evC ⟨0, 0, 0, 0⟩) rfl rfl rfl fun vb w5 H8 => ?_
    refine store_as tok H8 [.int .u32 (IntKind.u32.wrap (IntKind.i64.wrap (IntKind.i64.wrap (IntKind.i64.wrap ((if (12 : Int) < (n : Int) then (12 : Int) else (n : Int)) - 1) - (s.1 : Int)) + 1))), .int .i32 (IntKind.i32.wrap (t.start + IntKind.i32.wrap (d.beh % 120))), .int .u8 (IntKind.u8.wrap (4 + d.kind % 4)), .int .i64 (IntKind.i64.wrap (1 + IntKind.i64.wrap d.amt))] rfl rfl rfl rfl rfl fun w6 H9 => ?_
    rw [e1, e2, e3, e4] at H9
    have H9 : Hp ⟨w, M, I⟩ [blk vb [.int .u32 (((m - 1 - i : Nat) : Int) + 1), .int .i32 (t.start + d.beh % 120), .int .u8 (4 + d.kind % 4), .int .i64 (1 + d.amt)] 65, row 65 4 (.slice s.2.1.A s.2.1.n s.2.1.c) s.2.1.n (evsC (evTG t ds m i)), row 132 4 (.slice s.2.2.1.A s.2.2.1.n s.2.2.1.c) s.2.2.1.n s.2.2.2, blk tb (tmC t) 28] [Sl deedR (.slice A n c) ds] w6 := Hp.keep H9
    refine load_rule tok H9 (v := .int .u8 (4 + d.kind % 4)) rfl ?_
    have evd : evTG t ds m (i + 1) = evTG t ds m i ++ [evOf t d (m - 1 - i)] := evT_snoc t ds m i hi2 hd
    refine br (fun q7 => ?_) (fun q7 => ?_)
    · have q7 : 4 + d.kind % 4 = 7 := eq_of_beq q7
      refine store_as tok H9 [.int .u32 (((m - 1 - i : Nat) : Int) + 1), .int .i32 (t.start + d.beh % 120), .int .u8 (4 + d.kind % 4), .int .i64 0] rfl rfl rfl rfl rfl fun w7 H10 => ?_
      have eo : (⟨((m - 1 - i : Nat) : Int) + 1, t.start + d.beh % 120, 4 + d.kind % 4, 0⟩ : Ev) = evOf t d (m - 1 - i) := by unfold evOf; rw [if_pos q7]
      refine load_rule tok H10 (v := evV ⟨((m - 1 - i : Nat) : Int) + 1, t.start + d.beh % 120, 4 + d.kind % 4, 0⟩) rfl ?_
      refine slice_as tok H10 (evC ⟨((m - 1 - i : Nat) : Int) + 1, t.start + d.beh % 120, 4 + d.kind % 4, 0⟩) rfl rfl rfl rfl rfl rfl fun g w8 H11 => ?_
      refine append_rule (v := .slice s.2.1.A s.2.1.n s.2.1.c) (b := g) (m := 1) (c := 1) tok H11 rfl rfl rfl rfl rfl rfl rfl rfl (by show (s.2.1.n + 1) * 24 ≤ _; omega) (by omega) fun A2 c2 w9 H12 => ?_
      have es : evsC (evTG t ds m i) ++ evC ⟨((m - 1 - i : Nat) : Int) + 1, t.start + d.beh % 120, 4 + d.kind % 4, 0⟩ = evsC (evTG t ds m (i + 1)) := by rw [evd, evsC_app, ← eo]; rfl
      rw [es] at H12
      refine load_rule tok H12 (v := .int .u32 (((m - 1 - i : Nat) : Int) + 1)) rfl ?_
      refine load_rule tok H12 (v := .int .i32 (t.start + d.beh % 120)) rfl ?_
      refine load_rule tok H12 (v := .int .u8 (4 + d.kind % 4)) rfl ?_
      refine load_rule tok H12 (v := .int .i64 (0)) rfl ?_
      refine slice_as tok H12 [.int .u32 (((m - 1 - i : Nat) : Int) + 1), .int .i64 (IntKind.i64.wrap (t.start + d.beh % 120)), .int .u8 (4 + d.kind % 4), .int .i64 (0)] rfl rfl rfl rfl rfl rfl fun g2 wa H13 => ?_
      refine append_rule (v := .slice s.2.2.1.A s.2.2.1.n s.2.2.1.c) (b := g2) (m := 1) (c := 1) tok H13 rfl rfl rfl rfl rfl rfl rfl rfl (by show (s.2.2.1.n + 1) * 32 ≤ _; omega) (by omega) fun A3 c3 wb H14 => ?_
      refine Exists.intro (s.1 + 1, ⟨A2, s.2.1.n + 1, c2⟩, ⟨A3, s.2.2.1.n + 1, c3⟩, s.2.2.2 ++ [.int .u32 (((m - 1 - i : Nat) : Int) + 1), .int .i64 (IntKind.i64.wrap (t.start + d.beh % 120)), .int .u8 (4 + d.kind % 4), .int .i64 (0)]) (And.intro ⟨congrArg (Value.int .i64) ew, rfl, rfl, trivial⟩ (And.intro ?_ ⟨?_, ?_, ?_, ?_⟩))
      · show m - (s.1 + 1) < m - s.1
        omega
      · show s.1 + 1 ≤ m
        omega
      · show s.2.1.n + 1 = s.1 + 1
        omega
      · show s.2.2.1.n + 1 = s.1 + 1
        omega
      · show Hp ⟨w, M, I⟩ [row 65 4 (.slice A2 (s.2.1.n + 1) c2) (s.2.1.n + 1) (evsC (evTG t ds m (s.1 + 1))), row 132 4 (.slice A3 (s.2.2.1.n + 1) c3) (s.2.2.1.n + 1) (s.2.2.2 ++ [.int .u32 (((m - 1 - i : Nat) : Int) + 1), .int .i64 (IntKind.i64.wrap (t.start + d.beh % 120)), .int .u8 (4 + d.kind % 4), .int .i64 (0)]), blk tb (tmC t) 28] [Sl deedR (.slice A n c) ds] wb
        rw [← ei]
        exact Hp.keep H14
    · have q7 : 4 + d.kind % 4 ≠ 7 := ne_of_beq_false q7
      have H10 := H9
      have eo : (⟨((m - 1 - i : Nat) : Int) + 1, t.start + d.beh % 120, 4 + d.kind % 4, 1 + d.amt⟩ : Ev) = evOf t d (m - 1 - i) := by unfold evOf; rw [if_neg q7]
      refine load_rule tok H10 (v := evV ⟨((m - 1 - i : Nat) : Int) + 1, t.start + d.beh % 120, 4 + d.kind % 4, 1 + d.amt⟩) rfl ?_
      refine slice_as tok H10 (evC ⟨((m - 1 - i : Nat) : Int) + 1, t.start + d.beh % 120, 4 + d.kind % 4, 1 + d.amt⟩) rfl rfl rfl rfl rfl rfl fun g w8 H11 => ?_
      refine append_rule (v := .slice s.2.1.A s.2.1.n s.2.1.c) (b := g) (m := 1) (c := 1) tok H11 rfl rfl rfl rfl rfl rfl rfl rfl (by show (s.2.1.n + 1) * 24 ≤ _; omega) (by omega) fun A2 c2 w9 H12 => ?_
      have es : evsC (evTG t ds m i) ++ evC ⟨((m - 1 - i : Nat) : Int) + 1, t.start + d.beh % 120, 4 + d.kind % 4, 1 + d.amt⟩ = evsC (evTG t ds m (i + 1)) := by rw [evd, evsC_app, ← eo]; rfl
      rw [es] at H12
      refine load_rule tok H12 (v := .int .u32 (((m - 1 - i : Nat) : Int) + 1)) rfl ?_
      refine load_rule tok H12 (v := .int .i32 (t.start + d.beh % 120)) rfl ?_
      refine load_rule tok H12 (v := .int .u8 (4 + d.kind % 4)) rfl ?_
      refine load_rule tok H12 (v := .int .i64 (1 + d.amt)) rfl ?_
      refine slice_as tok H12 [.int .u32 (((m - 1 - i : Nat) : Int) + 1), .int .i64 (IntKind.i64.wrap (t.start + d.beh % 120)), .int .u8 (4 + d.kind % 4), .int .i64 (1 + d.amt)] rfl rfl rfl rfl rfl rfl fun g2 wa H13 => ?_
      refine append_rule (v := .slice s.2.2.1.A s.2.2.1.n s.2.2.1.c) (b := g2) (m := 1) (c := 1) tok H13 rfl rfl rfl rfl rfl rfl rfl rfl (by show (s.2.2.1.n + 1) * 32 ≤ _; omega) (by omega) fun A3 c3 wb H14 => ?_
      refine Exists.intro (s.1 + 1, ⟨A2, s.2.1.n + 1, c2⟩, ⟨A3, s.2.2.1.n + 1, c3⟩, s.2.2.2 ++ [.int .u32 (((m - 1 - i : Nat) : Int) + 1), .int .i64 (IntKind.i64.wrap (t.start + d.beh % 120)), .int .u8 (4 + d.kind % 4), .int .i64 (1 + d.amt)]) (And.intro ⟨congrArg (Value.int .i64) ew, rfl, rfl, trivial⟩ (And.intro ?_ ⟨?_, ?_, ?_, ?_⟩))
      · show m - (s.1 + 1) < m - s.1
        omega
      · show s.1 + 1 ≤ m
        omega
      · show s.2.1.n + 1 = s.1 + 1
        omega
      · show s.2.2.1.n + 1 = s.1 + 1
        omega
      · show Hp ⟨w, M, I⟩ [row 65 4 (.slice A2 (s.2.1.n + 1) c2) (s.2.1.n + 1) (evsC (evTG t ds m (s.1 + 1))), row 132 4 (.slice A3 (s.2.2.1.n + 1) c3) (s.2.2.1.n + 1) (s.2.2.2 ++ [.int .u32 (((m - 1 - i : Nat) : Int) + 1), .int .i64 (IntKind.i64.wrap (t.start + d.beh % 120)), .int .u8 (4 + d.kind % 4), .int .i64 (1 + d.amt)]), blk tb (tmC t) 28] [Sl deedR (.slice A n c) ds] wb
        rw [← ei]
        exact Hp.keep H14
  · rw [em] at q
    have him : i = m := by omega
    refine Exists.intro (s.2.1, s.2.2.1) (And.intro rfl (And.intro (by show s.2.1.n = m; omega) ?_))
    rw [him] at H3
    exact Hp.keep H3
end Go.Proofs.YtjlfjjgjghdokaaGreatDoor
