/- What all rows and cards of this seat need: the listed variables, worlds that meet them, how arguments read. -/
import Derived.Test.YtjlfjjgjghdokaaGreatDoorLy13
import Derived.Test.YtjlfjjgjghdokaaGreatDoorRows
import Derived.Test.YtjlfjjgjghdokaaGreatDoorCards
import Derived.Test.YtjlfjjgjghdokaaGreatDoorTie
import Derived.LaidLaws
import Derived.LaidHandle
import Derived.LaidMore
import Derived.Lay
import Derived.MakeChecks
import Derived.Shelf.Vars
import Derived.Stop.LaidErr
import Derived.Stop.Joined
import Derived.SevenTiedAt
set_option linter.unusedVariables false
namespace Go.Wk
open Go.ChangeShapes Go.WideShapes Go.ChangeAt Go.RowKit Go.Joins
section
variable {H : Type} {enc : TypeId × Value → H} {P : Program} {w : World} {base : Nat} {spare : Nat → Bool} {held : Bool}
theorem trod_struct7 {t : TypeId} {f0 f1 f2 f3 f4 f5 f6 : Field} {fuel : Nat} {cs : List Value} {x : DataW H × List MemPlace} (ht : P.underlying t = some (.struct #[f0, f1, f2, f3, f4, f5, f6])) (h : DataW.trod enc P w base spare held fuel t cs = some x) :
    ∃ y0 y1 y2 y3 y4 y5 y6 n, cs.length = P.cellsOf t ∧ DataW.trod enc P w base spare held n f0.type ((cs.drop f0.offset).take (P.cellsOf f0.type)) = some y0 ∧ DataW.trod enc P w base spare held n f1.type ((cs.drop f1.offset).take (P.cellsOf f1.type)) = some y1 ∧
      DataW.trod enc P w base spare held n f2.type ((cs.drop f2.offset).take (P.cellsOf f2.type)) = some y2 ∧ DataW.trod enc P w base spare held n f3.type ((cs.drop f3.offset).take (P.cellsOf f3.type)) = some y3 ∧ DataW.trod enc P w base spare held n f4.type ((cs.drop f4.offset).take (P.cellsOf f4.type)) = some y4 ∧
      DataW.trod enc P w base spare held n f5.type ((cs.drop f5.offset).take (P.cellsOf f5.type)) = some y5 ∧ DataW.trod enc P w base spare held n f6.type ((cs.drop f6.offset).take (P.cellsOf f6.type)) = some y6 := by
  obtain ⟨xs, n, _, rfl, hl, hlen, hf⟩ := DataW.trod_struct ht h
  match xs, hlen with
  | [y0, y1, y2, y3, y4, y5, y6], _ => exact ⟨y0, y1, y2, y3, y4, y5, y6, n, hl, by simpa using hf 0 f0 rfl, by simpa using hf 1 f1 rfl, by simpa using hf 2 f2 rfl, by simpa using hf 3 f3 rfl, by simpa using hf 4 f4 rfl, by simpa using hf 5 f5 rfl, by simpa using hf 6 f6 rfl⟩
end
/-- The wrap with a condition more and the world's shape kept. -/
theorem handed_shaped {H : Type} {enc : TypeId × Value → H} {a : Assume} {C : Checked} {os : Os} {f : FuncId} {fn : Func} {s : ChangeSpec} {conds : List PathCond} {apart fresh handsOn again : Bool} {X : World → Array Value → Prop}
    (hX : ∀ (w w' : World) (args : Array Value), w.heap = w'.heap → X w args → X w' args)
    (own : ownKnob C.prog.godebug = none) (started : os.Started) (noInit : C.prog.inits.idxOf? f = none) (hfn : C.prog.funcs[f]? = some fn)
    (witness : ∃ (w : World) (tape : Tape) (i : Input), w.os = os ∧ (w.forCall tape i).Shaped C.prog ∧ i.vars = [] ∧ Input.okWide C.prog (w.forCall tape i) .any w.heap.size f i ∧
      ((s.pre enc C.prog fn conds apart (w.forCall tape i).memory i.args ∧ X (w.forCall tape i).memory i.args) ∧ sizedMet enc C.prog fn (OpenSpec.ofChange s) apart (w.forCall tape i).memory i.args) ∧ a.holds C.prog (lone (Frame.enter C.prog f i.args .normal) [] (w.forCall tape i)))
    (contract : ∀ (W : World) (base : Nat) (args : Array Value) (ds gs : List (DataW H)) (before : List MemPlace),
      (∀ (j : Nat) t v, fn.params[j]? = some t → args[j]? = some v → Value.okWide C.prog W .any base t v) →
      DataW.Whole enc C.prog fn.params.toList s.vars apart W args.toList ds gs before →
      X W args → W.ShapedOpen C.prog →
      Calls C.prog f args W fun e W' => ∃ v, e = .returned v ∧ s.post enc C.prog fn apart fresh handsOn again W args v W') :
    ReturnsInHanded a C os f .any (fun w args => (s.pre enc C.prog fn conds apart w args ∧ X w args) ∧ sizedMet enc C.prog fn (OpenSpec.ofChange s) apart w args) (s.post enc C.prog fn apart fresh handsOn again) := by
  refine returnsInHanded_of_calls own started noInit witness ?_
  intro w tape i _ hsh _ hok hpre _
  obtain ⟨_, _, _, fn', hfn', _, _, _, _, hval⟩ := hok
  have e : fn' = fn := Option.some.inj (hfn'.symm.trans hfn)
  subst e
  obtain ⟨⟨⟨ds, gs, before, hw, hc⟩, hx⟩, hz⟩ := hpre
  have hw' := DataW.Whole.of_heap (w' := w.forCall tape i) (by rfl) hw
  refine (contract (w.forCall tape i) w.heap.size i.args ds gs before hval hw' (hX _ _ _ (by rfl) hx) hsh).mono fun e W' ⟨v, he, hp⟩ => ?_
  subst he
  exact ChangeSpec.post_blind hp
end Go.Wk
namespace Go.Proofs.YtjlfjjgjghdokaaGreatDoor
open Go.ChangeShapes Go.WideShapes Go.ChangeAt Go.RowKit Go.Joins Go.Wk
theorem ownK : ownKnob Tryz.prog.godebug = none := by kernel_rfl
theorem kids : Kids Tryz.prog (· < Tryz.prog.types.size) := kids_rows (by kernel_rfl) (by kernel_rfl)
theorem full : ∀ t e, t < Tryz.prog.types.size → Tryz.prog.underlying t = some (.slice e) → 0 < Tryz.prog.cellsOf e := slices_full_of _ (by kernel_rfl)
@[reducible] noncomputable def laid7 : List (String × DataW Unit) := [("math/bits.deBruijn32tab", Rows.laid_math_bits_deBruijn32tab), ("math/bits.deBruijn64tab", Rows.laid_math_bits_deBruijn64tab), ("internal/strconv.uint64pow10", Rows.laid_internal_strconv_uint64pow10), ("unicode/utf8.acceptRanges", Rows.laid_unicode_utf8_acceptRanges), ("strconv.ErrRange", Rows.laid_strconv_ErrRange), ("strconv.ErrSyntax", Rows.laid_strconv_ErrSyntax), ("unicode/utf8.first", Rows.laid_unicode_utf8_first)]
theorem plain7 (W : World) : laidMetH Tryz.prog laid7 W = laidMet Tryz.prog laid7 W := MakeChecks.laidMetH_plain _ _ _ (by kernel_rfl)
theorem maxLenCell {W : World} (h : W.ShapedOpen Tryz.prog) : ∃ m, W.cell? ⟨3, 0, none⟩ = some (.int .i64 m) :=
  cell_of_shapedOpen_int (t := 3) (zero := #[.int .i64 0]) h (of_decide_eq_true (by kernel_rfl)) (by kernel_rfl) rfl (by kernel_rfl) (by kernel_rfl) Tryz.underlying3
theorem row391 (u : TypeId) (h : Tryz.prog.typeName? 3 u = some "*errors.errorString") : u = 391 :=
  typeName_ptr_named (nm := "errors.errorString") (by kernel_rfl) (by kernel_rfl) (by decide) u h
theorem libF_of_laid {W : World} (h : laidMet Tryz.prog laid7 W) (hs : W.ShapedOpen Tryz.prog) : LibF.holds W (oldB W) := by
  obtain ⟨m, hm⟩ := maxLenCell hs
  have ht := Lib.tabIs_of_head (g := 8) (k := .u64) (zs := Lib.pow10Tab) (t := 409) (e := 42) (n := 20) gPow (by kernel_rfl) (by kernel_rfl) (by kernel_rfl) (by kernel_rfl) (by kernel_rfl) h.tail.tail
  obtain ⟨a0, s0, hv0, _⟩ := laid_sentinel (g := 1) h.tail.tail.tail.tail (by kernel_rfl) (by kernel_rfl) Tryz.underlying37 row391 Tryz.underlying391 Tryz.underlying393 rfl rfl Tryz.underlying9 (by kernel_rfl) (by kernel_rfl)
  obtain ⟨a1, s1, hv1, _⟩ := laid_sentinel (g := 2) h.tail.tail.tail.tail.tail (by kernel_rfl) (by kernel_rfl) Tryz.underlying37 row391 Tryz.underlying391 Tryz.underlying393 rfl rfl Tryz.underlying9 (by kernel_rfl) (by kernel_rfl)
  have c0 : W.cell? ⟨1, 0, none⟩ = some (.iface 391 (.pointer (some a0))) := by simpa using World.var?_cell (show Tryz.prog.globalNamed "strconv.ErrRange" = some 1 by kernel_rfl) hv0 0
  have c3 : W.cell? ⟨2, 0, none⟩ = some (.iface 391 (.pointer (some a1))) := by simpa using World.var?_cell (show Tryz.prog.globalNamed "strconv.ErrSyntax" = some 2 by kernel_rfl) hv1 0
  have c2 := ht.cell gPow 0 (by decide)
  exact ⟨m, some a1, some a0, ⟨(cell_lt hm).1, hm⟩, ⟨(cell_lt c3).1, c3⟩, ⟨(cell_lt c0).1, c0⟩, ⟨(cell_lt c2).1, ht⟩⟩
@[reducible] def libs7 : List Fact := [LibF]
theorem hpLaid7 {W : World} (h0 : laidMetH Tryz.prog laid7 W) (hs : W.ShapedOpen Tryz.prog) (F : List Fact) (hF : All F W (oldB W)) : Hp ⟨W, fun _ => False, oldB W⟩ [] (F ++ libs7) W := hp_old W _ fun f hf => by
  have h : laidMet Tryz.prog laid7 W := cast (plain7 W) h0
  rcases List.mem_append.1 hf with h1 | h1
  · exact hF f h1
  · rw [List.mem_singleton.1 h1]; exact libF_of_laid h hs

noncomputable def world7 (os : Os) : World := World.laidAll Tryz.prog os laid7
theorem world7_os (os : Os) : (world7 os).os = os := World.laidAll_os _ _ _
set_option maxRecDepth 100000 in
set_option maxHeartbeats 2000000 in
theorem shaped7 (os : Os) (args : Array Value) : ((world7 os).forCall (fun _ _ => 0) ⟨#[], args, []⟩).Shaped Tryz.prog := by
  have h : (world7 os).Shaped Tryz.prog := World.shaped_of_ZipB (by kernel_rfl) (by kernel_rfl)
  exact h
set_option maxRecDepth 100000 in
set_option maxHeartbeats 2000000 in
theorem met7 (os : Os) (args : Array Value) : laidMetH Tryz.prog laid7 ((world7 os).forCall (fun _ _ => 0) ⟨#[], args, []⟩).memory := by
  exact cast (plain7 _).symm (laidMet_laidAll _ (by kernel_rfl) (by kernel_rfl))
section
variable {H : Type} {enc : TypeId × Value → H} {w : World} {base : Nat} {spare : Nat → Bool} {held : Bool}
instance : Inhabited Tm := ⟨tm0⟩
theorem cell_5 : Tryz.prog.cellsOf 5 = 1 := by kernel_rfl
theorem cell_3 : Tryz.prog.cellsOf 3 = 1 := by kernel_rfl
theorem cell_22 : Tryz.prog.cellsOf 22 = 1 := by kernel_rfl
theorem cell_23 : Tryz.prog.cellsOf 23 = 1 := by kernel_rfl
theorem cell_25 : Tryz.prog.cellsOf 25 = 2 := by kernel_rfl
theorem cell_26 : Tryz.prog.cellsOf 26 = 1 := by kernel_rfl
theorem cell_28 : Tryz.prog.cellsOf 28 = 8 := by kernel_rfl
set_option maxRecDepth 100000 in
theorem trod_tm {n : Nat} {cs : List Value} {x : DataW H × List MemPlace} (h : DataW.trod enc Tryz.prog w base spare held n 28 cs = some x) : ∃ t : Tm, cs = tmC t ∧ TmIn t := by
  obtain ⟨y0, y1, y2, y3, y4, y5, y6, m, hl, h0, h1, h2, h3, h4, h5, h6⟩ := trod_struct7 Tryz.underlying28 h
  rw [cell_28] at hl
  match cs, hl with
  | [c0, c1, c2, c3, c4, c5, c6, c7], _ =>
    simp only [cell_5, cell_3, cell_22, cell_25, cell_26, List.drop_zero, List.drop_succ_cons, List.take_succ_cons, List.take_zero] at h0 h1 h2 h3 h4 h5 h6
    obtain ⟨z0, z1, m', _, _, k0, k1⟩ := trod_struct2 Tryz.underlying25 h2
    simp only [cell_23, cell_5, List.drop_zero, List.drop_succ_cons, List.take_succ_cons, List.take_zero] at k0 k1
    obtain ⟨a0, e0, _, w0⟩ := DataW.trod_int Tryz.underlying5 h0
    obtain ⟨a1, e1, _, w1⟩ := DataW.trod_int Tryz.underlying22 h1
    obtain ⟨b0, f0, _, u0⟩ := DataW.trod_int Tryz.underlying23 k0
    obtain ⟨b1, f1, _, u1⟩ := DataW.trod_int Tryz.underlying5 k1
    obtain ⟨a3, e3, _, w3⟩ := DataW.trod_int Tryz.underlying3 h3
    obtain ⟨a4, e4, _, w4⟩ := DataW.trod_int Tryz.underlying26 h4
    obtain ⟨a5, e5, _, w5⟩ := DataW.trod_int Tryz.underlying22 h5
    obtain ⟨a6, e6, _, w6⟩ := DataW.trod_int Tryz.underlying3 h6
    simp only [List.cons.injEq, and_true] at e0 e1 e3 e4 e5 e6 f0 f1
    subst e0 e1 e3 e4 e5 e6 f0 f1
    exact ⟨⟨a0, a1, b0, b1, a3, a4, a5, a6⟩, rfl, inK_of_wf w0, inK_of_wf w1, inK_of_wf u0, inK_of_wf u1, inK_of_wf w3, inK_of_wf w4, inK_of_wf w5, inK_of_wf w6⟩
set_option maxRecDepth 100000 in
theorem open_tm {b0 : Nat} {v : Value} {d : DataW H} {p : List MemPlace} (hv : Value.okWide Tryz.prog w .any b0 28 v) (h : DataW.Trod enc Tryz.prog w base spare held 28 v d p) : ∃ t : Tm, v = tmV t ∧ TmIn t := by
  obtain ⟨cs, rfl, hsz⟩ := okWide_struct Tryz.underlying28 hv
  obtain ⟨n, hn⟩ := h
  obtain ⟨t, e, hin⟩ := trod_tm hn
  refine ⟨t, ?_, hin⟩
  have e : cs.toList = tmC t := e
  have e2 : cs = (tmC t).toArray := by rw [← e]
  rw [e2]
end
end Go.Proofs.YtjlfjjgjghdokaaGreatDoor
set_option linter.unusedVariables false
namespace Go.Pl
def val : List Nat → Nat
  | [] => 0
  | x :: r => x + 65536 * val r
theorem val_app : ∀ a b : List Nat, val (a ++ b) = val a + 65536 ^ a.length * val b
  | [], b => by simp [val]
  | x :: a, b => by
    rw [List.cons_append, val, val_app a b, val, List.length_cons, Nat.pow_succ, Nat.mul_add]
    have : 65536 ^ a.length * 65536 * val b = 65536 * (65536 ^ a.length * val b) := by rw [Nat.mul_comm (65536 ^ a.length) 65536, Nat.mul_assoc]
    omega
theorem val_set : ∀ (l : List Nat) (k v old : Nat), l[k]? = some old → val (l.set k v) + 65536 ^ k * old = val l + 65536 ^ k * v
  | [], k, v, old, h => by simp at h
  | x :: l, 0, v, old, h => by
    simp only [List.getElem?_cons_zero, Option.some.injEq] at h
    subst h
    simp only [List.set_cons_zero, val, Nat.pow_zero, Nat.one_mul]
    omega
  | x :: l, k + 1, v, old, h => by
    have ih := val_set l k v old (by simpa using h)
    simp only [List.set_cons_succ, val]
    have e : ∀ z, 65536 ^ (k + 1) * z = 65536 * (65536 ^ k * z) := fun z => by rw [Nat.pow_succ, Nat.mul_comm (65536 ^ k) 65536, Nat.mul_assoc]
    rw [e, e]
    omega
theorem val_add {l : List Nat} {k old d : Nat} (h : l[k]? = some old) : val (l.set k (old + d)) = val l + 65536 ^ k * d := by
  have := val_set l k (old + d) old h
  rw [Nat.mul_add] at this
  omega
theorem val_at : ∀ (l : List Nat) (i x : Nat), (∀ y, y ∈ l → y < 65536) → l[i]? = some x → val l / 65536 ^ i % 65536 = x
  | [], i, x, _, h => by simp at h
  | y :: l, 0, x, hl, h => by
    simp only [List.getElem?_cons_zero, Option.some.injEq] at h
    subst h
    have := hl y List.mem_cons_self
    rw [Nat.pow_zero, Nat.div_one, val]
    omega
  | y :: l, i + 1, x, hl, h => by
    have ih := val_at l i x (fun z hz => hl z (List.mem_cons_of_mem _ hz)) (by simpa using h)
    have := hl y List.mem_cons_self
    rw [Nat.pow_succ, Nat.mul_comm, ← Nat.div_div_eq_div_mul, val]
    have e : (y + 65536 * val l) / 65536 = val l := by omega
    rw [e]
    exact ih
theorem val_take_succ {l : List Nat} {k x : Nat} (h : l[k]? = some x) : val (l.take (k + 1)) = val (l.take k) + 65536 ^ k * x := by
  have hk : k < l.length := (List.getElem?_eq_some_iff.1 h).1
  rw [List.take_add_one, h, val_app, List.length_take, Nat.min_eq_left (by omega)]
  simp [val]
/-! Mul: part by part. -/
structure MulI (x y : List Nat) (i j : Nat) (s : List Nat) : Prop where
  len : s.length = 9
  v : ∀ xi, x[i]? = some xi → val s = val (x.take i) * val (y.take 4) + 65536 ^ i * (xi * val (y.take j))
  b : ∀ e, e ∈ s → e ≤ (4 * i + j) * 65536
theorem mb (i j : Nat) {e : Nat} (h : e ≤ (4 * i + j) * 65536) : e ≤ (4 * i + (j + 1)) * 65536 := Nat.le_trans h (Nat.mul_le_mul_right _ (Nat.le_succ _))
theorem mb2 (i j : Nat) {a r : Nat} (h : a ≤ (4 * i + j) * 65536) (hr : r < 65536) : a + r ≤ (4 * i + (j + 1)) * 65536 := by
  rw [← Nat.add_assoc, Nat.succ_mul]
  exact Nat.add_le_add h (Nat.le_of_lt hr)
theorem dvb {p : Nat} (h : p ≤ 65535 * 65535) : p / 65536 < 65536 := Nat.div_lt_of_lt_mul (Nat.lt_of_le_of_lt h (by decide))
theorem MulI.step {x y : List Nat} {i j : Nat} {s : List Nat} (h : MulI x y i j s) (hi : i < 4) (hj : j < 4) {xi yj a b : Nat} (hx : x[i]? = some xi) (hy : y[j]? = some yj) (hxl : xi < 65536) (hyl : yj < 65536) (ha : s[i + j]? = some a)
    (hb : (s.set (i + j) (a + xi * yj % 65536))[i + j + 1]? = some b) : MulI x y i (j + 1) ((s.set (i + j) (a + xi * yj % 65536)).set (i + j + 1) (b + xi * yj / 65536)) := by
  have hp : xi * yj ≤ 65535 * 65535 := Nat.mul_le_mul (Nat.le_of_lt_succ hxl) (Nat.le_of_lt_succ hyl)
  have hb0 : s[i + j + 1]? = some b := by rw [List.getElem?_set_ne (by omega)] at hb; exact hb
  have ba := h.b a (List.mem_of_getElem? ha)
  have bb := h.b b (List.mem_of_getElem? hb0)
  refine ⟨by rw [List.length_set, List.length_set]; exact h.len, fun xi' hx' => ?_, fun e he => ?_⟩
  · rw [hx] at hx'
    injection hx' with hx'
    subst hx'
    rw [val_add hb, val_add ha, h.v xi hx, val_take_succ hy]
    have e1 : 65536 ^ (i + j + 1) * (xi * yj / 65536) = 65536 ^ (i + j) * (65536 * (xi * yj / 65536)) := by rw [Nat.pow_succ, Nat.mul_assoc]
    have e2 : 65536 ^ (i + j) * (xi * yj % 65536) + 65536 ^ (i + j) * (65536 * (xi * yj / 65536)) = 65536 ^ (i + j) * (xi * yj) := by rw [← Nat.mul_add, Nat.mod_add_div]
    have e3 : 65536 ^ i * (xi * (val (y.take j) + 65536 ^ j * yj)) = 65536 ^ i * (xi * val (y.take j)) + 65536 ^ (i + j) * (xi * yj) := by
      rw [Nat.mul_add, Nat.mul_add, Nat.pow_add]
      congr 1
      rw [← Nat.mul_assoc xi, Nat.mul_comm xi (65536 ^ j), Nat.mul_assoc (65536 ^ j), ← Nat.mul_assoc (65536 ^ i)]
    rw [e3, e1]
    omega
  · rcases List.mem_or_eq_of_mem_set he with he | he
    · rcases List.mem_or_eq_of_mem_set he with he | he
      · exact mb i j (h.b e he)
      · rw [he]; exact mb2 i j ba (Nat.mod_lt _ (by decide))
    · rw [he]; exact mb2 i j bb (dvb hp)
theorem MulI.next {x y : List Nat} {i : Nat} {s : List Nat} (h : MulI x y i 4 s) (hx : i < x.length) : MulI x y (i + 1) 0 s := by
  obtain ⟨xi, hxi⟩ : ∃ xi, x[i]? = some xi := ⟨_, List.getElem?_eq_getElem hx⟩
  refine ⟨h.len, fun z hz => ?_, fun e he => by have := h.b e he; omega⟩
  rw [h.v xi hxi, val_take_succ hxi, List.take_zero, val, Nat.mul_zero, Nat.mul_zero, Nat.add_zero, Nat.add_mul, Nat.mul_assoc]
theorem MulI.start (x y : List Nat) : MulI x y 0 0 [0, 0, 0, 0, 0, 0, 0, 0, 0] := by
  refine ⟨rfl, fun xi hx => ?_, fun e he => ?_⟩
  · rw [List.take_zero, List.take_zero, val, Nat.mul_zero, Nat.zero_mul, Nat.mul_zero]; rfl
  · simp at he; omega
structure CarI (s : List Nat) (k : Nat) (out : List Nat) (over : Nat) : Prop where
  len : out.length = 8
  lt : ∀ x, x ∈ out → x < 65536
  z : ∀ i, k ≤ i → i < 8 → out[i]? = some 0
  v : val out + 65536 ^ k * over = val (s.take k)
  o : over ≤ 17
theorem CarI.start (s : List Nat) : CarI s 0 [0, 0, 0, 0, 0, 0, 0, 0] 0 := by
  refine ⟨rfl, fun x h => by simp at h; omega, fun i _ h => ?_, by rw [List.take_zero]; rfl, by decide⟩
  show (List.replicate 8 0)[i]? = some 0
  rw [List.getElem?_replicate, if_pos h]
theorem CarI.step {s out : List Nat} {k over e : Nat} (h : CarI s k out over) (hk : k < 8) (hs : s[k]? = some e) (he : e ≤ 16 * 65536) : CarI s (k + 1) (out.set k ((e + over) % 65536)) ((e + over) / 65536) := by
  have ho := h.o
  have hz := h.z k (Nat.le_refl _) hk
  refine ⟨by rw [List.length_set]; exact h.len, fun x hx => ?_, fun i h1 h2 => ?_, ?_, by omega⟩
  · rcases List.mem_or_eq_of_mem_set hx with hx | hx
    · exact h.lt x hx
    · rw [hx]; exact Nat.mod_lt _ (by decide)
  · rw [List.getElem?_set_ne (by omega)]; exact h.z i (by omega) h2
  · have e1 := val_set out k ((e + over) % 65536) 0 hz
    rw [Nat.mul_zero, Nat.add_zero] at e1
    rw [e1, val_take_succ hs, ← h.v]
    have e2 : 65536 ^ (k + 1) * ((e + over) / 65536) = 65536 ^ k * (65536 * ((e + over) / 65536)) := by rw [Nat.pow_succ, Nat.mul_assoc]
    have e3 : 65536 ^ k * ((e + over) % 65536) + 65536 ^ k * (65536 * ((e + over) / 65536)) = 65536 ^ k * (e + over) := by rw [← Nat.mul_add, Nat.mod_add_div]
    rw [Nat.mul_add] at e3
    rw [e2]
    omega
/-! Div: bit by bit. -/
structure DivI (A n t : Nat) (out : List Nat) (left : Nat) : Prop where
  len : out.length = 8
  lt : ∀ x, x ∈ out → x < 65536
  v : val out = A / 2 ^ t / n * 2 ^ t
  l : left = A / 2 ^ t % n
theorem half {A t : Nat} : A / 2 ^ t = 2 * (A / 2 ^ (t + 1)) + A / 2 ^ t % 2 := by
  have e : A / 2 ^ (t + 1) = A / 2 ^ t / 2 := by rw [Nat.pow_succ, Nat.div_div_eq_div_mul]
  rw [e]; omega
theorem div_two {q l bit n : Nat} (hl : l < n) (hb : bit < 2) : (n ≤ 2 * l + bit → (2 * (q * n + l) + bit) / n = 2 * q + 1 ∧ (2 * (q * n + l) + bit) % n = 2 * l + bit - n) ∧ (¬ n ≤ 2 * l + bit → (2 * (q * n + l) + bit) / n = 2 * q ∧ (2 * (q * n + l) + bit) % n = 2 * l + bit) := by
  have e : 2 * (q * n + l) + bit = (2 * l + bit) + n * (2 * q) := by
    rw [Nat.mul_add, ← Nat.mul_assoc, Nat.mul_comm (2 * q) n]; omega
  have hn : 0 < n := by omega
  constructor
  · intro h
    have e2 : 2 * (q * n + l) + bit = (2 * l + bit - n) + n * (2 * q + 1) := by rw [e, Nat.mul_add, Nat.mul_one]; omega
    rw [e2, Nat.add_mul_div_left _ _ hn, Nat.add_mul_mod_self_left, Nat.div_eq_of_lt (by omega), Nat.mod_eq_of_lt (by omega)]
    exact ⟨by omega, rfl⟩
  · intro h
    rw [e, Nat.add_mul_div_left _ _ hn, Nat.add_mul_mod_self_left, Nat.div_eq_of_lt (by omega), Nat.mod_eq_of_lt (by omega)]
    exact ⟨by omega, rfl⟩
/-- A bit that is not there yet: the part where it goes. -/
theorem free_bit {out : List Nat} {q t x : Nat} (hlt : ∀ y, y ∈ out → y < 65536) (hv : val out = q * 2 ^ (t + 1)) (hx : out[t / 16]? = some x) : ∃ a, x = a * 2 ^ (t % 16 + 1) ∧ x + 2 ^ (t % 16) < 65536 := by
  have h1 := val_at out (t / 16) x hlt hx
  have hxl := hlt x (List.mem_of_getElem? hx)
  have hr : t % 16 < 16 := Nat.mod_lt _ (by decide)
  have ht : t = 16 * (t / 16) + t % 16 := by omega
  have e2 : (65536 : Nat) ^ (t / 16) = 2 ^ (16 * (t / 16)) := by rw [Nat.pow_mul]
  have e3 : val out / 65536 ^ (t / 16) = q * 2 ^ (t % 16 + 1) := by
    rw [hv, e2, show t + 1 = (t % 16 + 1) + 16 * (t / 16) by omega, Nat.pow_add, ← Nat.mul_assoc, Nat.mul_div_cancel _ (Nat.pow_pos (by decide))]
  rw [e3] at h1
  have e : (65536 : Nat) = 2 ^ (15 - t % 16) * 2 ^ (t % 16 + 1) := by rw [← Nat.pow_add, show 15 - t % 16 + (t % 16 + 1) = 16 by omega]
  have hpos : 0 < 2 ^ (t % 16 + 1) := Nat.pow_pos (by decide)
  have hm : q * 2 ^ (t % 16 + 1) % 65536 = q % 2 ^ (15 - t % 16) * 2 ^ (t % 16 + 1) := by
    have := Nat.mul_mod_mul_right (2 ^ (t % 16 + 1)) q (2 ^ (15 - t % 16))
    rw [← e] at this
    exact this
  rw [hm] at h1
  refine ⟨q % 2 ^ (15 - t % 16), h1.symm, ?_⟩
  have hlt2 : q % 2 ^ (15 - t % 16) + 1 ≤ 2 ^ (15 - t % 16) := Nat.mod_lt _ (Nat.pow_pos (by decide))
  have := Nat.mul_le_mul_right (2 ^ (t % 16 + 1)) hlt2
  rw [← e, Nat.add_mul, Nat.one_mul, h1] at this
  have h2 : 2 ^ (t % 16) < 2 ^ (t % 16 + 1) := Nat.pow_lt_pow_right (by decide) (by omega)
  omega
theorem DivI.yes {A n t : Nat} {out : List Nat} {left x : Nat} (h : DivI A n (t + 1) out left) (hn : 0 < n) (hx : out[t / 16]? = some x) (hq : n ≤ 2 * left + A / 2 ^ t % 2) : DivI A n t (out.set (t / 16) (x + 2 ^ (t % 16))) (2 * left + A / 2 ^ t % 2 - n) := by
  obtain ⟨a, ha, hb⟩ := free_bit h.lt h.v hx
  have hl : left < n := by rw [h.l]; exact Nat.mod_lt _ hn
  have hd := (div_two (q := A / 2 ^ (t + 1) / n) (bit := A / 2 ^ t % 2) hl (Nat.mod_lt _ (by decide))).1 hq
  have eA : 2 * (A / 2 ^ (t + 1) / n * n + left) + A / 2 ^ t % 2 = A / 2 ^ t := by
    rw [h.l, Nat.mul_comm (A / 2 ^ (t + 1) / n) n, Nat.div_add_mod]
    exact half.symm
  rw [eA] at hd
  refine ⟨by rw [List.length_set]; exact h.len, fun y hy => ?_, ?_, hd.2.symm⟩
  · rcases List.mem_or_eq_of_mem_set hy with hy | hy
    · exact h.lt y hy
    · rw [hy]; exact hb
  · rw [val_add hx, h.v, hd.1]
    have e2 : (65536 : Nat) ^ (t / 16) * 2 ^ (t % 16) = 2 ^ t := by
      rw [show (65536 : Nat) ^ (t / 16) = 2 ^ (16 * (t / 16)) by rw [Nat.pow_mul], ← Nat.pow_add, show 16 * (t / 16) + t % 16 = t by omega]
    rw [e2, Nat.pow_succ, Nat.add_mul, Nat.one_mul]
    congr 1
    rw [Nat.mul_comm (2 ^ t) 2, ← Nat.mul_assoc, Nat.mul_comm _ 2]
theorem DivI.no {A n t : Nat} {out : List Nat} {left : Nat} (h : DivI A n (t + 1) out left) (hn : 0 < n) (hq : ¬ n ≤ 2 * left + A / 2 ^ t % 2) : DivI A n t out (2 * left + A / 2 ^ t % 2) := by
  have hl : left < n := by rw [h.l]; exact Nat.mod_lt _ hn
  have hd := (div_two (q := A / 2 ^ (t + 1) / n) (bit := A / 2 ^ t % 2) hl (Nat.mod_lt _ (by decide))).2 hq
  have eA : 2 * (A / 2 ^ (t + 1) / n * n + left) + A / 2 ^ t % 2 = A / 2 ^ t := by
    rw [h.l, Nat.mul_comm (A / 2 ^ (t + 1) / n) n, Nat.div_add_mod]
    exact half.symm
  rw [eA] at hd
  refine ⟨h.len, h.lt, ?_, hd.2.symm⟩
  rw [h.v, hd.1, Nat.pow_succ, Nat.mul_comm (2 ^ t) 2, ← Nat.mul_assoc, Nat.mul_comm _ 2]
theorem DivI.start {A n : Nat} (hA : A < 2 ^ 128) : DivI A n 128 [0, 0, 0, 0, 0, 0, 0, 0] 0 := by
  have e : A / 2 ^ 128 = 0 := Nat.div_eq_of_lt hA
  exact ⟨rfl, fun x h => by simp at h; omega, by rw [e, Nat.zero_div, Nat.zero_mul]; rfl, by rw [e, Nat.zero_mod]⟩
theorem DivI.fin {A n : Nat} {out : List Nat} {left : Nat} (h : DivI A n 0 out left) : val out = A / n ∧ left = A % n := by
  have hv := h.v
  have hl := h.l
  rw [Nat.pow_zero, Nat.div_one] at hv hl
  rw [Nat.mul_one] at hv
  exact ⟨hv, hl⟩
/-! The months' nearest. -/
end Go.Pl
set_option linter.unusedVariables false
namespace Go.Proofs.YtjlfjjgjghdokaaGreatDoor
open Go Go.Proofs Go.Wk Go.Pl
theorem rollR_one {hs : List Int} {s k : Int} {r r' : Option Int} (h : rollR hs s k r) (h' : rollR hs s k r') : r = r' := by
  obtain ⟨p, hp, hr⟩ := h
  obtain ⟨p', hp', hr'⟩ := h'
  obtain rfl := plainR_one hp hp'
  cases p with
  | none =>
    have a : r = none := hr
    have b : r' = none := hr'
    rw [a, b]
  | some n => exact nextR_one hr hr'
theorem DuesR.one {t : Tm} {hs : List Int} {i : Nat} {ds ds' : List (Int × Int)} (h : DuesR t hs i ds) (h' : DuesR t hs i ds') : ds = ds' := by
  refine List.ext_getElem? fun k => ?_
  by_cases hk : k < i
  · obtain ⟨d, s, q1, q2, q3⟩ := h.at_ k hk
    obtain ⟨d', s', q1', q2', q3'⟩ := h'.at_ k hk
    have e1 := Option.some.inj (rollR_one q1 q1')
    have e2 := Option.some.inj (q2.symm.trans q2')
    rw [q3, q3', e1, e2]
  · rw [List.getElem?_eq_none (by rw [h.len]; omega), List.getElem?_eq_none (by rw [h'.len]; omega)]
end Go.Proofs.YtjlfjjgjghdokaaGreatDoor
set_option linter.unusedVariables false
namespace Go.Proofs.YtjlfjjgjghdokaaGreatDoor
open Go Go.Proofs Go.Wk
theorem widePlus (hi lo c : Nat) (h1 : hi < 9223372036854775808) (h2 : lo < 18446744073709551616) (h3 : c < 18446744073709551616) :
    CB 248 [wideV hi lo, wideV 0 c] (.tuple #[wideV (hi + (lo + c) / 18446744073709551616) ((lo + c) % 18446744073709551616), .nilIface]) := by
  intro w M I H
  have e1 : ((lo : Int) + (c : Int) + 0) % 18446744073709551616 = (((lo + c) % 18446744073709551616 : Nat) : Int) := by omega
  have e2 : ((lo : Int) + (c : Int) + 0) / 18446744073709551616 = (((lo + c) / 18446744073709551616 : Nat) : Int) := by omega
  have hq : (lo + c) / 18446744073709551616 ≤ 1 := by omega
  have e3 : ((hi : Int) + 0 + (((lo + c) / 18446744073709551616 : Nat) : Int)) % 18446744073709551616 = ((hi + (lo + c) / 18446744073709551616 : Nat) : Int) := by omega
  have e4 : ((hi : Int) + 0 + (((lo + c) / 18446744073709551616 : Nat) : Int)) / 18446744073709551616 = 0 := by omega
  refine Exe.of_ev tok Tryz.call248 Tryz.func248 rfl rfl rfl ?_
  refine box_as H (wideC hi lo) rfl fun a w1 H1 => ?_
  refine box_as H1 (wideC 0 c) rfl fun b w2 H2 => ?_
  refine alloc_as tok H2 (wideC 0 0) rfl rfl rfl fun r w3 H3 => ?_
  refine load_rule tok H3 (v := .int .u64 (lo : Int)) rfl ?_
  refine load_rule tok H3 (v := .int .u64 (c : Int)) rfl ?_
  refine CallK_ext (e := add64Entry) Tryz.func273 (by kernel_rfl) (by kernel_rfl) (by kernel_rfl) (by kernel_rfl) (run_add64 (lo : Int) (c : Int) 0 (by omega) (by omega) (by omega) (by omega) w3) ?_
  rw [e1, e2]
  refine load_rule tok H3 (v := .int .u64 (hi : Int)) rfl ?_
  refine load_rule tok H3 (v := .int .u64 0) rfl ?_
  refine CallK_ext (e := add64Entry) Tryz.func273 (by kernel_rfl) (by kernel_rfl) (by kernel_rfl) (by kernel_rfl) (run_add64 (hi : Int) 0 (((lo + c) / 18446744073709551616 : Nat) : Int) (by omega) (by omega) (by omega) (by omega) w3) ?_
  rw [e3, e4]
  refine store_as tok H3 (wideC (hi + (lo + c) / 18446744073709551616) ((lo + c) % 18446744073709551616)) rfl rfl rfl rfl rfl fun w4 H4 => ?_
  refine Exists.intro ⟨r, 0, none⟩ (Exists.intro (wideV (hi + (lo + c) / 18446744073709551616) ((lo + c) % 18446744073709551616)) (And.intro rfl (And.intro (Hp.ld (T := tb) tok H4 rfl) ?_)))
  exact Exists.intro () (And.intro rfl (And.intro trivial (Hp.keep H4)))
theorem wideAdd (hi lo c : Nat) (h1 : hi < 9223372036854775808) (h2 : lo < 18446744073709551616) (h3 : c < 18446744073709551616) :
    CB 220 [wideV hi lo, .int .u64 (c : Int)] (.tuple #[wideV (hi + (lo + c) / 18446744073709551616) ((lo + c) % 18446744073709551616), .nilIface]) := by
  intro w M I H
  refine Exe.of_ev tok Tryz.call220 Tryz.func220 rfl rfl rfl ?_
  refine box_as H (wideC hi lo) rfl fun a w1 H1 => ?_
  refine alloc_as tok H1 (wideC 0 0) rfl rfl rfl fun r w2 H2 => ?_
  refine load_rule tok H2 (v := wideV hi lo) rfl ?_
  refine call_rule H2 (fun M I _ h => widePlus hi lo c h1 h2 h3 _ M I h) fun _ w3 _ H3 => ?_
  refine store_as tok H3 (wideC (hi + (lo + c) / 18446744073709551616) ((lo + c) % 18446744073709551616)) rfl rfl rfl rfl rfl fun w4 H4 => ?_
  refine Exists.intro ⟨r, 0, none⟩ (Exists.intro (wideV (hi + (lo + c) / 18446744073709551616) ((lo + c) % 18446744073709551616)) (And.intro rfl (And.intro (Hp.ld (T := tb) tok H4 rfl) ?_)))
  exact Exists.intro () (And.intro rfl (And.intro trivial (Hp.keep H4)))
/-! Spans. -/
def th (y m d y' m' d' : Int) : Int := 360 * (y' - y) + 30 * (m' - m) + (if min d 30 = 30 then min d' 30 else d') - min d 30
end Go.Proofs.YtjlfjjgjghdokaaGreatDoor
set_option linter.unusedVariables false
namespace Go.Proofs.YtjlfjjgjghdokaaGreatDoor
open Go Go.Proofs Go.Wk
def m30 (d : Int) : Int := if 30 < d then 30 else d
def b30 (d d' : Int) : Int := if m30 d = 30 then m30 d' else d'
def thN (y m d y' m' d' : Int) : Int := 360 * (y' - y) + 30 * (m' - m) + b30 d d' - m30 d
theorem m30_bd {d : Int} (h1 : 1 ≤ d) (h2 : d ≤ 31) : 1 ≤ m30 d ∧ m30 d ≤ 30 := by unfold m30; split <;> omega
theorem b30_bd {d d' : Int} (h1 : 1 ≤ d') (h2 : d' ≤ 31) : 1 ≤ b30 d d' ∧ b30 d d' ≤ 31 := by
  have := m30_bd h1 h2
  unfold b30; split <;> omega
theorem dat_31 {y m d : Int} (h : Dat y m d) : 1 ≤ d ∧ d ≤ 31 := ⟨h.d1, by have := h.d2; have := (len_pos (y := y) (m := m)).2; omega⟩
theorem thirtyGo (y m d y' m' d' : Int) (bb : Int) (ha : 1 ≤ m30 d ∧ m30 d ≤ 30) (hb : 1 ≤ bb ∧ bb ≤ 31) (h : Dat y m d) (h' : Dat y' m' d') :
    IntKind.i64.wrap (IntKind.i64.wrap (IntKind.i64.wrap (IntKind.i64.wrap (360 * IntKind.i64.wrap (y' - y)) + IntKind.i64.wrap (30 * IntKind.i64.wrap (m' - m))) + bb) - m30 d) = 360 * (y' - y) + 30 * (m' - m) + bb - m30 d := by
  have h1 := h.y1; have h2 := h.y2; have h3 := h.m1; have h4 := h.m2
  have k1 := h'.y1; have k2 := h'.y2; have k3 := h'.m1; have k4 := h'.m2
  obtain ⟨a1, a2⟩ := ha
  obtain ⟨b1, b2⟩ := hb
  rw [i64w (n := y' - y) (by omega) (by omega), i64w (n := 360 * (y' - y)) (by omega) (by omega), i64w (n := m' - m) (by omega) (by omega), i64w (n := 30 * (m' - m)) (by omega) (by omega), i64w (n := 360 * (y' - y) + 30 * (m' - m)) (by omega) (by omega), i64w (n := 360 * (y' - y) + 30 * (m' - m) + bb) (by omega) (by omega), i64w (by omega) (by omega)]
theorem thirty (y m d y' m' d' : Int) (h : Dat y m d) (h' : Dat y' m' d') : CB 250 [civV y m d, civV y' m' d'] (.int .i64 (thN y m d y' m' d')) := by
  intro w M I H
  have ha := m30_bd (dat_31 h).1 (dat_31 h).2
  have hb := b30_bd (d := d) (dat_31 h').1 (dat_31 h').2
  have e0 := thirtyGo y m d y' m' d' (b30 d d') ha hb h h'
  refine Exe.of_ev tok Tryz.call250 Tryz.func250 rfl rfl rfl ?_
  refine box_as H (civC y m d) rfl fun a w1 H1 => ?_
  refine box_as H1 (civC y' m' d') rfl fun b w2 H2 => ?_
  refine load_rule tok H2 (v := .int .i64 d) rfl ?_
  refine store_as tok H2 (civC y m (m30 d)) rfl rfl rfl rfl rfl fun w3 H3 => ?_
  refine load_rule tok H3 (v := .int .i64 (m30 d)) rfl ?_
  refine br (fun q => ?_) (fun q => ?_)
  · have q : m30 d = 30 := by simpa using q
    have eb : b30 d d' = m30 d' := by unfold b30; rw [if_pos q]
    rw [eb] at e0
    refine load_rule tok H3 (v := .int .i64 d') rfl ?_
    refine store_as tok H3 (civC y' m' (m30 d')) rfl rfl rfl rfl rfl fun w4 H4 => ?_
    refine draw_rule (A := []) tok tdr H4 [0, 1, 2, 3, 4, 5, 6, 7, 8, 9, 10, 11, 12, 13, 14, 15, 16, 17, 18, 19, 20] [0, 0, 2, 0, 8, 30, 63, 0, 128, 0, 512, 1920, 3968, 8191, 0, 16384, 65535, 0, 131072, 524287, 1048575] rfl ?_
    refine imp_rule (fun X wx h => call_rule h (fun M I _ h => year 2 _ M I h) fun _ w1 _ H1 => imp_done H1 ?_)
    refine pass_rule _ (fun w h => load_rule tok h (v := .int .i64 y') rfl ⟨rfl, rfl⟩) ?_
    refine pass_rule _ (fun w h => load_rule tok h (v := .int .i64 y) rfl ⟨rfl, rfl⟩) ?_
    refine pass_rule _ (fun w h => load_rule tok h (v := .int .i64 m') rfl ⟨rfl, rfl⟩) ?_
    refine pass_rule _ (fun w h => load_rule tok h (v := .int .i64 m) rfl ⟨rfl, rfl⟩) ?_
    refine pass_rule _ (fun w h => load_rule tok h (v := .int .i64 (m30 d')) rfl ⟨rfl, rfl⟩) ?_
    refine pass_rule _ (fun w h => load_rule tok h (v := .int .i64 (m30 d)) rfl ⟨rfl, rfl⟩) ?_
    refine done_rule fun w5 H5 => ?_
    refine Exists.intro () (And.intro (congrArg (Value.int .i64) ?_) (And.intro trivial (Hp.keep H5)))
    unfold thN
    rw [eb]
    exact e0
  · have q : m30 d ≠ 30 := by simpa using q
    have eb : b30 d d' = d' := by unfold b30; rw [if_neg q]
    rw [eb] at e0
    refine draw_rule (A := []) tok tdr H3 [0, 1, 2, 3, 4, 5, 6, 7, 8, 9, 10, 11, 12, 13, 14, 15, 16, 17, 18, 19, 20] [0, 0, 2, 0, 8, 30, 63, 0, 128, 0, 512, 1920, 3968, 8191, 0, 16384, 65535, 0, 131072, 524287, 1048575] rfl ?_
    refine imp_rule (fun X wx h => call_rule h (fun M I _ h => year 2 _ M I h) fun _ w1 _ H1 => imp_done H1 ?_)
    refine pass_rule _ (fun w h => load_rule tok h (v := .int .i64 y') rfl ⟨rfl, rfl⟩) ?_
    refine pass_rule _ (fun w h => load_rule tok h (v := .int .i64 y) rfl ⟨rfl, rfl⟩) ?_
    refine pass_rule _ (fun w h => load_rule tok h (v := .int .i64 m') rfl ⟨rfl, rfl⟩) ?_
    refine pass_rule _ (fun w h => load_rule tok h (v := .int .i64 m) rfl ⟨rfl, rfl⟩) ?_
    refine pass_rule _ (fun w h => load_rule tok h (v := .int .i64 d') rfl ⟨rfl, rfl⟩) ?_
    refine pass_rule _ (fun w h => load_rule tok h (v := .int .i64 (m30 d)) rfl ⟨rfl, rfl⟩) ?_
    refine done_rule fun w5 H5 => ?_
    refine Exists.intro () (And.intro (congrArg (Value.int .i64) ?_) (And.intro trivial (Hp.keep H5)))
    unfold thN
    rw [eb]
    exact e0
structure SpanR (bas n1 n2 r : Int) : Prop where
  ex : ∃ y m d y' m' d', Dat y m d ∧ Dat y' m' d' ∧ numD y m d = n1 ∧ numD y' m' d' = n2 ∧ r = (if bas = 2 then thN y m d y' m' d' else n2 - n1)
theorem spanDays (bas n1 n2 : Int) (hbas : bas = 1 ∨ bas = 2) (h1 : dayB n1 = true) (h2 : dayB n2 = true) (hle : n1 ≤ n2) (w : World) (M I : BS) (H : Hp ⟨w, M, I⟩ [] [] w) :
    Ctr Tryz.prog 223 [.int .u8 bas, .int .i32 n1, .int .i32 n2] w M I (fun r : Int => .tuple #[.int .i64 r, .nilIface]) (fun r => SpanR bas n1 n2 r) (fun _ => []) (fun _ => []) := by
  have hd1 := h1
  have hd2 := h2
  simp only [dayB, Bool.and_eq_true, decide_eq_true_eq] at hd1 hd2
  have hy : yearS bas ≠ 0 := by unfold yearS; split <;> (try split) <;> omega
  refine Exe.of_ev tok Tryz.call223 Tryz.func223 rfl rfl rfl ?_
  refine call_rule H (fun M I _ h => civil n1 h1 _ M I h) fun a w1 ha H1 => ?_
  refine alloc_as tok H1 (civC 0 0 0) rfl rfl rfl fun p w2 H2 => ?_
  refine store_as tok H2 (civC a.1 a.2.1 a.2.2) rfl rfl rfl rfl rfl fun w3 H3 => ?_
  refine call_rule H3 (fun M I _ h => civil n2 h2 _ M I h) fun b w4 hb H4 => ?_
  refine alloc_as tok H4 (civC 0 0 0) rfl rfl rfl fun p2 w5 H5 => ?_
  refine store_as tok H5 (civC b.1 b.2.1 b.2.2) rfl rfl rfl rfl rfl fun w6 H6 => ?_
  refine call_rule H6 (fun M I _ h => year bas _ M I h) fun _ w7 _ H7 => ?_
  refine br (fun q => ?_) (fun q => ?_)
  · exfalso
    have q : (yearS bas == 0) = true := q
    exact hy (eq_of_beq q)
  refine brd (fun q2 => ?_) (fun q2 => ?_)
  · exact absurd hle (Int.not_le.2 q2)
  refine br (fun q3 => ?_) (fun q3 => ?_)
  · have q3 : bas = 2 := by simpa using q3
    refine load_rule tok H7 (v := civV a.1 a.2.1 a.2.2) rfl ?_
    refine load_rule tok H7 (v := civV b.1 b.2.1 b.2.2) rfl ?_
    refine call_rule H7 (fun M I _ h => thirty a.1 a.2.1 a.2.2 b.1 b.2.1 b.2.2 ha.1 hb.1 _ M I h) fun _ w8 _ H8 => ?_
    refine Exists.intro (thN a.1 a.2.1 a.2.2 b.1 b.2.1 b.2.2) (And.intro rfl (And.intro ⟨⟨a.1, a.2.1, a.2.2, b.1, b.2.1, b.2.2, ha.1, hb.1, ha.2, hb.2, by rw [if_pos q3]⟩⟩ (Hp.keep H8)))
  · have q3 : bas ≠ 2 := by simpa using q3
    have e1 : IntKind.i64.wrap (IntKind.i32.wrap (n2 - n1)) = n2 - n1 := by rw [i32w (n := n2 - n1) (by omega) (by omega), i64w (by omega) (by omega)]
    refine Exists.intro (n2 - n1) (And.intro ?_ (And.intro ⟨⟨a.1, a.2.1, a.2.2, b.1, b.2.1, b.2.2, ha.1, hb.1, ha.2, hb.2, by rw [if_neg q3]⟩⟩ (Hp.keep H7)))
    show Value.tuple #[.int .i64 (IntKind.i64.wrap (IntKind.i32.wrap (n2 - n1))), .nilIface] = _
    rw [e1]
/-- How many days a day counts. -/
def oneN (bas y m d : Int) : Int := if bas = 2 then (if d < lenM y m then 1 else 31 - lenM y m) else 1
structure OneR (bas n r : Int) : Prop where
  ex : ∃ y m d, Dat y m d ∧ numD y m d = n ∧ r = oneN bas y m d
theorem OneR.one {bas n r r' : Int} (h : OneR bas n r) (h' : OneR bas n r') : r = r' := by
  obtain ⟨y, m, d, h1, h2, h3⟩ := h.ex
  obtain ⟨y', m', d', k1, k2, k3⟩ := h'.ex
  obtain ⟨e1, e2, e3⟩ := num_inj h1 k1 (h2.trans k2.symm)
  subst e1; subst e2; subst e3
  rw [h3, k3]
theorem OneR.bd {bas n r : Int} (h : OneR bas n r) : 0 ≤ r ∧ r ≤ 3 := by
  obtain ⟨y, m, d, h1, h2, h3⟩ := h.ex
  have := len_pos (y := y) (m := m)
  rw [h3]; unfold oneN
  split
  · split <;> omega
  · omega
/-- The next day. -/
theorem next_dat {y m d y' m' d' : Int} (h : Dat y m d) (h' : Dat y' m' d') (e : numD y' m' d' = numD y m d + 1) : 360 * (y' - y) + 30 * (m' - m) + d' - d = oneN 2 y m d := by
  unfold oneN
  rw [if_pos rfl]
  have hm := off_succ (y := y) h.m1 h.m2
  by_cases hd : d < lenM y m
  · rw [if_pos hd]
    have hx : Dat y m (d + 1) := ⟨h.y1, h.y2, h.m1, h.m2, by have := h.d1; omega, by omega⟩
    obtain ⟨e1, e2, e3⟩ := num_inj h' hx (by rw [e]; unfold numD; omega)
    subst e1; subst e2; subst e3
    omega
  · rw [if_neg hd]
    have hdl : d = lenM y m := by have := h.d2; omega
    by_cases h12 : m = 12
    · have hl : lenM y 12 = 31 := rfl
      subst h12
      have hoe := off_end (y := y)
      have hbs := beg_succ h.y1
      by_cases hy : y = 9999
      · exfalso
        have := (num_range h').2
        have ht : beg (9999 + 1) = 3652059 := beg_top
        subst hy
        unfold numD at e this
        have hr := (num_range h).2
        unfold numD at hr
        rw [show (12 : Int) + 1 = 13 by decide, hoe] at hm
        omega
      · have hx : Dat (y + 1) 1 1 := ⟨by have := h.y1; omega, by have := h.y2; omega, by decide, by decide, by decide, by have := (len_pos (y := y + 1) (m := 1)).1; omega⟩
        have ho := off_one (y + 1)
        obtain ⟨e1, e2, e3⟩ := num_inj h' hx (by rw [e]; unfold numD; rw [show (12 : Int) + 1 = 13 by decide, hoe] at hm; omega)
        subst e1; subst e2; subst e3
        omega
    · have hx : Dat y (m + 1) 1 := ⟨h.y1, h.y2, by have := h.m1; omega, by have := h.m2; omega, by decide, by have := (len_pos (y := y) (m := m + 1)).1; omega⟩
      obtain ⟨e1, e2, e3⟩ := num_inj h' hx (by rw [e]; unfold numD; omega)
      subst e1; subst e2; subst e3
      omega
theorem one_of {bas n r1 r2 y m d : Int} (hbas : bas = 1 ∨ bas = 2) (hD : Dat y m d) (hn : numD y m d = n) (h1 : SpanR bas (n - (d - 1)) n r1) (h2 : SpanR bas (n - (d - 1)) (n + 1) r2) : r2 - r1 = oneN bas y m d := by
  have hF : Dat y m 1 := ⟨hD.y1, hD.y2, hD.m1, hD.m2, by decide, by have := (len_pos (y := y) (m := m)).1; omega⟩
  have hFn : numD y m 1 = n - (d - 1) := by rw [← hn]; unfold numD; omega
  obtain ⟨a1, a2, a3, b1, b2, b3, ha, hb, ea, eb, er⟩ := h1.ex
  obtain ⟨c1, c2, c3, d1, d2, d3, hc, hd, ec, ed, es⟩ := h2.ex
  obtain ⟨i1, i2, i3⟩ := num_inj ha hF (ea.trans hFn.symm)
  obtain ⟨j1, j2, j3⟩ := num_inj hb hD (eb.trans hn.symm)
  obtain ⟨k1, k2, k3⟩ := num_inj hc hF (ec.trans hFn.symm)
  subst i1; subst i2; subst i3; subst j1; subst j2; subst j3; subst k1; subst k2
  subst k3
  rcases hbas with rfl | rfl
  · rw [if_neg (by decide)] at er es
    rw [er, es]; unfold oneN; rw [if_neg (by decide)]; omega
  · rw [if_pos rfl] at er es
    have := next_dat hD hd (by rw [ed, hn])
    have e30 : m30 1 = 1 := rfl
    have e31 : ∀ x, b30 1 x = x := fun x => by unfold b30; rw [e30, if_neg (by decide)]
    rw [er, es, ← this]
    unfold thN
    rw [e30, e31, e31]
    omega
theorem spanOne (bas n : Int) (hbas : bas = 1 ∨ bas = 2) (h1 : dayB n = true) (hn : n < 3652058) (w : World) (M I : BS) (H : Hp ⟨w, M, I⟩ [] [] w) :
    Ctr Tryz.prog 164 [.int .u8 bas, .int .i32 n] w M I (fun r : Int => .tuple #[.int .i64 r, .nilIface]) (fun r => OneR bas n r) (fun _ => []) (fun _ => []) := by
  have hd1 := h1
  simp only [dayB, Bool.and_eq_true, decide_eq_true_eq] at hd1
  refine Exe.of_ev tok Tryz.call164 Tryz.func164 rfl rfl rfl ?_
  refine brd (fun q => ?_) (fun q => ?_)
  · exact absurd hn (Int.not_lt.2 q)
  refine call_rule H (fun M I _ h => civil n h1 _ M I h) fun a w1 ha H1 => ?_
  have hdd := dat_31 ha.1
  have hnr : 0 ≤ n - (a.2.2 - 1) := by
    have hF : Dat a.1 a.2.1 1 := ⟨ha.1.y1, ha.1.y2, ha.1.m1, ha.1.m2, Int.le_refl 1, Int.le_trans hdd.1 ha.1.d2⟩
    have h0 := (num_range hF).1
    have h2 := ha.2
    unfold numD at h0 h2
    omega
  have e1 : IntKind.i32.wrap (n - IntKind.i32.wrap (IntKind.i64.wrap (a.2.2 - 1))) = n - (a.2.2 - 1) := by
    rw [i64w (n := a.2.2 - 1) (by omega) (by omega), i32w (n := a.2.2 - 1) (by omega) (by omega), i32w (by omega) (by omega)]
  have e2 : IntKind.i32.wrap (n + 1) = n + 1 := i32w (by omega) (by omega)
  have k1 : dayB (n - (a.2.2 - 1)) = true := by simp only [dayB, Bool.and_eq_true, decide_eq_true_eq]; omega
  have k2 : dayB (n + 1) = true := by simp only [dayB, Bool.and_eq_true, decide_eq_true_eq]; omega
  have k3 : n - (a.2.2 - 1) ≤ n := by omega
  have k4 : n - (a.2.2 - 1) ≤ n + 1 := by omega
  refine alloc_as tok H1 (civC 0 0 0) rfl rfl rfl fun p w2 H2 => ?_
  refine store_as tok H2 (civC a.1 a.2.1 a.2.2) rfl rfl rfl rfl rfl fun w3 H3 => ?_
  refine load_rule tok H3 (v := .int .i64 a.2.2) rfl ?_
  refine call_rule H3 (fun M I _ h => e1.symm ▸ spanDays bas (n - (a.2.2 - 1)) n hbas k1 h1 k3 _ M I h) fun r1 w4 hr1 H4 => ?_
  refine call_rule H4 (fun M I _ h => e1.symm ▸ e2.symm ▸ spanDays bas (n - (a.2.2 - 1)) (n + 1) hbas k1 k2 k4 _ M I h) fun r2 w5 hr2 H5 => ?_
  rw [e1] at hr1
  rw [e1, e2] at hr2
  have e3 := one_of hbas ha.1 ha.2 hr1 hr2
  have hR : OneR bas n (oneN bas a.1 a.2.1 a.2.2) := ⟨⟨a.1, a.2.1, a.2.2, ha.1, ha.2, rfl⟩⟩
  have e4 : IntKind.i64.wrap (r2 - r1) = oneN bas a.1 a.2.1 a.2.2 := by rw [e3]; have := hR.bd; exact i64w (by omega) (by omega)
  refine Exists.intro (oneN bas a.1 a.2.1 a.2.2) (And.intro ?_ (And.intro hR (Hp.keep H5)))
  show Value.tuple #[.int .i64 (IntKind.i64.wrap (r2 - r1)), .nilIface] = _
  rw [e4]
end Go.Proofs.YtjlfjjgjghdokaaGreatDoor
set_option linter.unusedVariables false
namespace Go.Proofs.YtjlfjjgjghdokaaGreatDoor
open Go Go.Proofs Go.Wk
def unitN (b : Int) : Nat := if b = 2 then 360000000 else 365000000
theorem unit_bd (b : Int) : 360000000 ≤ unitN b ∧ unitN b ≤ 365000000 := by unfold unitN; split <;> omega
theorem rate_basis {parts b : Int} (h : rateB parts b = true) : b = 1 ∨ b = 2 := by
  simp only [rateB, Bool.and_eq_true, decide_eq_true_eq] at h
  have h := h.2
  unfold yearS at h
  split at h
  · exact .inl (by assumption)
  · split at h
    · exact .inr (by assumption)
    · omega
theorem rate_parts {parts b : Int} (h : rateB parts b = true) : parts ≤ 1000000 := by
  simp only [rateB, Bool.and_eq_true, decide_eq_true_eq] at h
  exact h.1
theorem unit_year {b : Int} (hb : b = 1 ∨ b = 2) : IntKind.u64.wrap (1000000 * IntKind.u64.wrap (yearS b)) = ((unitN b : Nat) : Int) := by
  rcases hb with rfl | rfl <;> rfl
theorem unit_ (parts b : Int) (hr : rateB parts b = true) : CB 218 [rateV parts b] (.int .u64 ((unitN b : Nat) : Int)) := by
  intro w M I H
  have e := unit_year (rate_basis hr)
  refine Exe.of_ev tok Tryz.call218 Tryz.func218 rfl rfl rfl ?_
  refine box_as H (rateC parts b) rfl fun r w1 H1 => ?_
  refine load_rule tok H1 (v := rateV parts b) rfl ?_
  refine call_rule H1 (fun M I _ h => hr ▸ rateRight parts b _ M I h) fun _ w2 _ H2 => ?_
  refine load_rule tok H2 (v := .int .u8 b) rfl ?_
  refine call_rule H2 (fun M I _ h => year b _ M I h) fun _ w3 _ H3 => ?_
  refine Exists.intro () (And.intro (congrArg (Value.int .u64) ?_) (And.intro trivial (Hp.keep H3)))
  exact e
def dayX (parts p days c : Nat) : Nat := p * (parts * days) + c
theorem dayX_bd {parts p days c : Nat} (h1 : parts ≤ 1000000) (h2 : p ≤ 1000000000000) (h3 : days ≤ 100000) (h4 : c ≤ 365000000) : dayX parts p days c ≤ 100000000000000000365000000 := by
  have a := Nat.mul_le_mul h1 h3
  have b := Nat.mul_le_mul h2 a
  unfold dayX; omega
theorem dayX_q {parts p days c U : Nat} (h : dayX parts p days c ≤ 100000000000000000365000000) (hU : 360000000 ≤ U) : dayX parts p days c / U ≤ 300000000000000000 := by
  refine Nat.le_trans (Nat.div_le_div_left hU (by decide)) ?_
  refine Nat.le_trans (Nat.div_le_div_right h) ?_
  decide
theorem i64nat {q : Nat} (h : q ≤ 300000000000000000) : IntKind.i64.wrap (q : Int) = (q : Int) := i64w (by omega) (by omega)
theorem days_ (parts b : Int) (pN p days c : Nat) (hpp : parts = (pN : Int)) (hr : rateB parts b = true) (hp : p ≤ 1000000000000) (hd : days ≤ 100000) (hc : c < unitN b) :
    CB 163 [rateV parts b, .int .i64 p, .int .i64 days, .int .u64 c] (.tuple #[.int .i64 ((dayX pN p days c / unitN b : Nat) : Int), .int .u64 ((dayX pN p days c % unitN b : Nat) : Int), .nilIface]) := by
  intro w M I H
  have hU := unit_bd b
  have hparts : pN ≤ 1000000 := by have := rate_parts hr; omega
  have hcb : coinB (p : Int) = true := by simp only [coinB, Bool.and_eq_true, decide_eq_true_eq]; omega
  have hX := dayX_bd hparts hp hd (c := c) (by omega)
  have hq := dayX_q hX hU.1
  have hm : pN * days ≤ 1000000 * 100000 := Nat.mul_le_mul hparts hd
  have hm2 : p * (pN * days) ≤ 1000000000000 * (1000000 * 100000) := Nat.mul_le_mul hp hm
  have e1 : IntKind.u64.wrap (p : Int) = ((p : Nat) : Int) := u64n (by omega)
  have e2 : IntKind.u64.wrap (IntKind.u64.wrap parts * IntKind.u64.wrap (days : Int)) = ((pN * days : Nat) : Int) := by
    rw [hpp, u64n (x := pN) (by omega), u64n (x := days) (by omega), ← Int.natCast_mul, u64n (by omega)]
  have wm := wideMul p (pN * days) (by omega) (by omega)
  have hhi : p * (pN * days) / 18446744073709551616 < 9223372036854775808 := by
    refine Nat.lt_of_le_of_lt (Nat.div_le_div_right hm2) (by decide)
  have wa := wideAdd (p * (pN * days) / 18446744073709551616) (p * (pN * days) % 18446744073709551616) c hhi (Nat.mod_lt _ (by decide)) (by omega)
  have a1 : p * (pN * days) / 18446744073709551616 + (p * (pN * days) % 18446744073709551616 + c) / 18446744073709551616 = dayX pN p days c / 18446744073709551616 := by unfold dayX; omega
  have a2 : (p * (pN * days) % 18446744073709551616 + c) % 18446744073709551616 = dayX pN p days c % 18446744073709551616 := by unfold dayX; omega
  rw [a1, a2] at wa
  have hs := split_div (p := dayX pN p days c) (n := unitN b) (by omega) (by omega)
  have hXhi : dayX pN p days c / 18446744073709551616 < 18446744073709551616 := Nat.lt_of_le_of_lt (Nat.div_le_div_right hX) (by decide)
  have wd := wideDiv (dayX pN p days c / 18446744073709551616) (dayX pN p days c % 18446744073709551616) (unitN b) hXhi (Nat.mod_lt _ (by decide)) (by omega) (by omega)
  rw [hs.1, hs.2] at wd
  have e3 : IntKind.i64.wrap ((dayX pN p days c / unitN b : Nat) : Int) = ((dayX pN p days c / unitN b : Nat) : Int) := i64nat hq
  have hd2 : ¬ ((100000 : Int) < (days : Int)) := by omega
  have hc1 : ¬ (((unitN b : Nat) : Int) ≤ (c : Int)) := by omega
  clear hX hq hm hm2 a1 a2 hs hXhi hhi
  refine Exe.of_ev tok Tryz.call163 Tryz.func163 rfl rfl rfl ?_
  refine box_as H (rateC parts b) rfl fun r w1 H1 => ?_
  refine load_rule tok H1 (v := rateV parts b) rfl ?_
  refine call_rule H1 (fun M I _ h => hr ▸ rateRight parts b _ M I h) fun _ w2 _ H2 => ?_
  refine call_rule H2 (fun M I _ h => hcb ▸ coinRight (p : Int) _ M I h) fun _ w3 _ H3 => ?_
  refine brd (fun q => absurd q hd2) (fun _ => ?_)
  refine load_rule tok H3 (v := rateV parts b) rfl ?_
  refine call_rule H3 (fun M I _ h => unit_ parts b hr _ M I h) fun _ w4 _ H4 => ?_
  refine brd (fun q => absurd q hc1) (fun _ => ?_)
  refine load_rule tok H4 (v := .int .u32 parts) rfl ?_
  refine call_rule H4 (fun M I _ h => e1.symm ▸ e2.symm ▸ wm _ M I h) fun _ w5 _ H5 => ?_
  refine call_rule H5 (fun M I _ h => wa _ M I h) fun _ w6 _ H6 => ?_
  refine alloc_as tok H6 (wideC 0 0) rfl rfl rfl fun x w7 H7 => ?_
  refine store_as tok H7 (wideC (dayX pN p days c / 18446744073709551616) (dayX pN p days c % 18446744073709551616)) rfl rfl rfl rfl rfl fun w8 H8 => ?_
  refine draw_rule (A := []) tok tdr H8 [1, 2, 0, 3, 4, 5, 8, 9, 6, 7, 10, 11] [0, 0, 2, 7, 15, 31, 31, 31, 0, 319, 895, 2047] rfl ?_
  refine pass_rule _ (fun w h => load_rule tok h (v := rateV parts b) rfl ⟨rfl, rfl⟩) ?_
  refine imp_rule (fun X wx h => call_rule h (fun M I _ h => unit_ parts b hr _ M I h) fun _ w1 _ H1 => imp_done H1 ?_)
  refine pass_rule _ (fun w h => load_rule tok h (v := wideV (dayX pN p days c / 18446744073709551616) (dayX pN p days c % 18446744073709551616)) rfl ⟨rfl, rfl⟩) ?_
  refine imp_rule (fun X wx h => call_rule h (fun M I _ h => wd _ M I h) fun _ w1 _ H1 => imp_done H1 ?_)
  refine fresh_alloc tok rfl rfl rfl fun y => ?_
  refine imp_rule (fun X wx h => store_as tok h (wideC 0 (dayX pN p days c / unitN b)) rfl rfl rfl rfl rfl fun w1 H1 => imp_done H1 ?_)
  refine done_rule fun w9 H9 => ?_
  refine load_rule tok H9 (v := wideV 0 (dayX pN p days c / unitN b)) rfl ?_
  refine call_rule H9 (fun M I _ h => wideSmall (dayX pN p days c / unitN b) _ M I h) fun _ w10 _ H10 => ?_
  refine Exists.intro () (And.intro ?_ (And.intro trivial (Hp.keep H10)))
  show Value.tuple #[.int .i64 (IntKind.i64.wrap ((dayX pN p days c / unitN b : Nat) : Int)), .int .u64 ((dayX pN p days c % unitN b : Nat) : Int), .nilIface] = _
  rw [e3]
/-- What a day brings. -/
@[reducible] def dyV (a : Nat × Nat) : Value := .tuple #[.int .i64 (a.1 : Int), .int .u64 (a.2 : Int), .nilIface]
structure DayR (pN : Nat) (b : Int) (p c : Nat) (n : Int) (a : Nat × Nat) : Prop where
  ex : ∃ r : Int, OneR b n r ∧ a = (dayX pN p r.toNat c / unitN b, dayX pN p r.toNat c % unitN b)
theorem DayR.one {pN p c : Nat} {b n : Int} {x y : Nat × Nat} (h : DayR pN b p c n x) (h' : DayR pN b p c n y) : x = y := by
  obtain ⟨r, h1, h2⟩ := h.ex
  obtain ⟨r', k1, k2⟩ := h'.ex
  rw [h2, k2, h1.one k1]
theorem DayR.carry {pN p c : Nat} {b n : Int} {x : Nat × Nat} (h : DayR pN b p c n x) : x.2 < unitN b := by
  obtain ⟨r, h1, h2⟩ := h.ex
  rw [h2]
  exact Nat.mod_lt _ (by have := unit_bd b; omega)
theorem DayR.bd {pN p c : Nat} {b n : Int} {x : Nat × Nat} (h : DayR pN b p c n x) (h1 : pN ≤ 1000000) (h2 : p ≤ 1000000000000) (h3 : c < unitN b) : x.1 ≤ 10000000000 := by
  obtain ⟨r, hr, e⟩ := h.ex
  have hb := hr.bd
  have hU := unit_bd b
  have a := Nat.mul_le_mul h1 (show r.toNat ≤ 3 by omega)
  have b' := Nat.mul_le_mul h2 a
  rw [e]
  have hX : dayX pN p r.toNat c ≤ 3000000000365000000 := by unfold dayX; omega
  refine Nat.le_trans (Nat.div_le_div_left hU.1 (by decide)) ?_
  refine Nat.le_trans (Nat.div_le_div_right hX) ?_
  decide
theorem day_ (parts b n : Int) (pN p c : Nat) (hpp : parts = (pN : Int)) (hr : rateB parts b = true) (hp : p ≤ 1000000000000) (hn1 : dayB n = true) (hn2 : n < 3652058) (hc : c < unitN b) (w : World) (M I : BS) (H : Hp ⟨w, M, I⟩ [] [] w) :
    Ctr Tryz.prog 100 [rateV parts b, .int .i64 p, .int .i32 n, .int .u64 c] w M I dyV (fun a => DayR pN b p c n a) (fun _ => []) (fun _ => []) := by
  have hb := rate_basis hr
  refine Exe.of_ev tok Tryz.call100 Tryz.func100 rfl rfl rfl ?_
  refine box_as H (rateC parts b) rfl fun r w1 H1 => ?_
  refine load_rule tok H1 (v := rateV parts b) rfl ?_
  refine call_rule H1 (fun M I _ h => days_ parts b pN p 0 c hpp hr hp (Nat.zero_le _) hc _ M I h) fun _ w2 _ H2 => ?_
  refine load_rule tok H2 (v := .int .u8 b) rfl ?_
  refine call_rule H2 (fun M I _ h => spanOne b n hb hn1 hn2 _ M I h) fun d w3 hd H3 => ?_
  have hbd := hd.bd
  have ed : d = ((d.toNat : Nat) : Int) := by omega
  have hd3 : d.toNat ≤ 100000 := by omega
  refine load_rule tok H3 (v := rateV parts b) rfl ?_
  have ctr := fun w M I h => days_ parts b pN p d.toNat c hpp hr hp hd3 hc w M I h
  rw [← ed] at ctr
  refine call_rule H3 (fun M I _ h => ctr _ M I h) fun _ w4 _ H4 => ?_
  exact Exists.intro (dayX pN p d.toNat c / unitN b, dayX pN p d.toNat c % unitN b) (And.intro rfl (And.intro ⟨⟨d, hd, rfl⟩⟩ (Hp.keep H4)))
end Go.Proofs.YtjlfjjgjghdokaaGreatDoor
