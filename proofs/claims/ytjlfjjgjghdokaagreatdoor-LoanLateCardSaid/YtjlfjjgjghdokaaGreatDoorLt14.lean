/- What all rows and cards of this seat need: the listed variables, worlds that meet them, how arguments read. -/
import Derived.Test.YtjlfjjgjghdokaaGreatDoorLt13
import Derived.Test.YtjlfjjgjghdokaaGreatDoorRows
import Derived.Test.YtjlfjjgjghdokaaGreatDoorCards
import Derived.Test.YtjlfjjgjghdokaaGreatDoorTie
import Derived.LaidLaws
import Derived.LaidHandle
import Derived.LaidMore
import Derived.Lay
import Derived.MakeChecks
import Derived.Shelf.Vars
import Derived.Stop.LaidErr
import Derived.Stop.Joined
import Derived.SevenTiedAt
set_option linter.unusedVariables false
namespace Go.Wk
open Go.ChangeShapes Go.WideShapes Go.ChangeAt Go.RowKit Go.Joins
section
variable {H : Type} {enc : TypeId × Value → H} {P : Program} {w : World} {base : Nat} {spare : Nat → Bool} {held : Bool}
theorem trod_struct7 {t : TypeId} {f0 f1 f2 f3 f4 f5 f6 : Field} {fuel : Nat} {cs : List Value} {x : DataW H × List MemPlace} (ht : P.underlying t = some (.struct #[f0, f1, f2, f3, f4, f5, f6])) (h : DataW.trod enc P w base spare held fuel t cs = some x) :
    ∃ y0 y1 y2 y3 y4 y5 y6 n, cs.length = P.cellsOf t ∧ DataW.trod enc P w base spare held n f0.type ((cs.drop f0.offset).take (P.cellsOf f0.type)) = some y0 ∧ DataW.trod enc P w base spare held n f1.type ((cs.drop f1.offset).take (P.cellsOf f1.type)) = some y1 ∧
      DataW.trod enc P w base spare held n f2.type ((cs.drop f2.offset).take (P.cellsOf f2.type)) = some y2 ∧ DataW.trod enc P w base spare held n f3.type ((cs.drop f3.offset).take (P.cellsOf f3.type)) = some y3 ∧ DataW.trod enc P w base spare held n f4.type ((cs.drop f4.offset).take (P.cellsOf f4.type)) = some y4 ∧
      DataW.trod enc P w base spare held n f5.type ((cs.drop f5.offset).take (P.cellsOf f5.type)) = some y5 ∧ DataW.trod enc P w base spare held n f6.type ((cs.drop f6.offset).take (P.cellsOf f6.type)) = some y6 := by
  obtain ⟨xs, n, _, rfl, hl, hlen, hf⟩ := DataW.trod_struct ht h
  match xs, hlen with
  | [y0, y1, y2, y3, y4, y5, y6], _ => exact ⟨y0, y1, y2, y3, y4, y5, y6, n, hl, by simpa using hf 0 f0 rfl, by simpa using hf 1 f1 rfl, by simpa using hf 2 f2 rfl, by simpa using hf 3 f3 rfl, by simpa using hf 4 f4 rfl, by simpa using hf 5 f5 rfl, by simpa using hf 6 f6 rfl⟩
end
/-- The wrap with a condition more and the world's shape kept. -/
theorem handed_shaped {H : Type} {enc : TypeId × Value → H} {a : Assume} {C : Checked} {os : Os} {f : FuncId} {fn : Func} {s : ChangeSpec} {conds : List PathCond} {apart fresh handsOn again : Bool} {X : World → Array Value → Prop}
    (hX : ∀ (w w' : World) (args : Array Value), w.heap = w'.heap → X w args → X w' args)
    (own : ownKnob C.prog.godebug = none) (started : os.Started) (noInit : C.prog.inits.idxOf? f = none) (hfn : C.prog.funcs[f]? = some fn)
    (witness : ∃ (w : World) (tape : Tape) (i : Input), w.os = os ∧ (w.forCall tape i).Shaped C.prog ∧ i.vars = [] ∧ Input.okWide C.prog (w.forCall tape i) .any w.heap.size f i ∧
      ((s.pre enc C.prog fn conds apart (w.forCall tape i).memory i.args ∧ X (w.forCall tape i).memory i.args) ∧ sizedMet enc C.prog fn (OpenSpec.ofChange s) apart (w.forCall tape i).memory i.args) ∧ a.holds C.prog (lone (Frame.enter C.prog f i.args .normal) [] (w.forCall tape i)))
    (contract : ∀ (W : World) (base : Nat) (args : Array Value) (ds gs : List (DataW H)) (before : List MemPlace),
      (∀ (j : Nat) t v, fn.params[j]? = some t → args[j]? = some v → Value.okWide C.prog W .any base t v) →
      DataW.Whole enc C.prog fn.params.toList s.vars apart W args.toList ds gs before →
      X W args → W.ShapedOpen C.prog →
      Calls C.prog f args W fun e W' => ∃ v, e = .returned v ∧ s.post enc C.prog fn apart fresh handsOn again W args v W') :
    ReturnsInHanded a C os f .any (fun w args => (s.pre enc C.prog fn conds apart w args ∧ X w args) ∧ sizedMet enc C.prog fn (OpenSpec.ofChange s) apart w args) (s.post enc C.prog fn apart fresh handsOn again) := by
  refine returnsInHanded_of_calls own started noInit witness ?_
  intro w tape i _ hsh _ hok hpre _
  obtain ⟨_, _, _, fn', hfn', _, _, _, _, hval⟩ := hok
  have e : fn' = fn := Option.some.inj (hfn'.symm.trans hfn)
  subst e
  obtain ⟨⟨⟨ds, gs, before, hw, hc⟩, hx⟩, hz⟩ := hpre
  have hw' := DataW.Whole.of_heap (w' := w.forCall tape i) (by rfl) hw
  refine (contract (w.forCall tape i) w.heap.size i.args ds gs before hval hw' (hX _ _ _ (by rfl) hx) hsh).mono fun e W' ⟨v, he, hp⟩ => ?_
  subst he
  exact ChangeSpec.post_blind hp
end Go.Wk
namespace Go.Proofs.YtjlfjjgjghdokaaGreatDoor
open Go.ChangeShapes Go.WideShapes Go.ChangeAt Go.RowKit Go.Joins Go.Wk
theorem ownK : ownKnob Tryz.prog.godebug = none := by kernel_rfl
theorem kids : Kids Tryz.prog (· < Tryz.prog.types.size) := kids_rows (by kernel_rfl) (by kernel_rfl)
theorem full : ∀ t e, t < Tryz.prog.types.size → Tryz.prog.underlying t = some (.slice e) → 0 < Tryz.prog.cellsOf e := slices_full_of _ (by kernel_rfl)
@[reducible] noncomputable def laid7 : List (String × DataW Unit) := [("math/bits.deBruijn32tab", Rows.laid_math_bits_deBruijn32tab), ("math/bits.deBruijn64tab", Rows.laid_math_bits_deBruijn64tab), ("internal/strconv.uint64pow10", Rows.laid_internal_strconv_uint64pow10), ("unicode/utf8.acceptRanges", Rows.laid_unicode_utf8_acceptRanges), ("strconv.ErrRange", Rows.laid_strconv_ErrRange), ("strconv.ErrSyntax", Rows.laid_strconv_ErrSyntax), ("unicode/utf8.first", Rows.laid_unicode_utf8_first)]
theorem plain7 (W : World) : laidMetH Tryz.prog laid7 W = laidMet Tryz.prog laid7 W := MakeChecks.laidMetH_plain _ _ _ (by kernel_rfl)
theorem maxLenCell {W : World} (h : W.ShapedOpen Tryz.prog) : ∃ m, W.cell? ⟨3, 0, none⟩ = some (.int .i64 m) :=
  cell_of_shapedOpen_int (t := 3) (zero := #[.int .i64 0]) h (of_decide_eq_true (by kernel_rfl)) (by kernel_rfl) rfl (by kernel_rfl) (by kernel_rfl) Tryz.underlying3
theorem row391 (u : TypeId) (h : Tryz.prog.typeName? 3 u = some "*errors.errorString") : u = 391 :=
  typeName_ptr_named (nm := "errors.errorString") (by kernel_rfl) (by kernel_rfl) (by decide) u h
theorem libF_of_laid {W : World} (h : laidMet Tryz.prog laid7 W) (hs : W.ShapedOpen Tryz.prog) : LibF.holds W (oldB W) := by
  obtain ⟨m, hm⟩ := maxLenCell hs
  have ht := Lib.tabIs_of_head (g := 8) (k := .u64) (zs := Lib.pow10Tab) (t := 409) (e := 42) (n := 20) gPow (by kernel_rfl) (by kernel_rfl) (by kernel_rfl) (by kernel_rfl) (by kernel_rfl) h.tail.tail
  obtain ⟨a0, s0, hv0, _⟩ := laid_sentinel (g := 1) h.tail.tail.tail.tail (by kernel_rfl) (by kernel_rfl) Tryz.underlying37 row391 Tryz.underlying391 Tryz.underlying393 rfl rfl Tryz.underlying9 (by kernel_rfl) (by kernel_rfl)
  obtain ⟨a1, s1, hv1, _⟩ := laid_sentinel (g := 2) h.tail.tail.tail.tail.tail (by kernel_rfl) (by kernel_rfl) Tryz.underlying37 row391 Tryz.underlying391 Tryz.underlying393 rfl rfl Tryz.underlying9 (by kernel_rfl) (by kernel_rfl)
  have c0 : W.cell? ⟨1, 0, none⟩ = some (.iface 391 (.pointer (some a0))) := by simpa using World.var?_cell (show Tryz.prog.globalNamed "strconv.ErrRange" = some 1 by kernel_rfl) hv0 0
  have c3 : W.cell? ⟨2, 0, none⟩ = some (.iface 391 (.pointer (some a1))) := by simpa using World.var?_cell (show Tryz.prog.globalNamed "strconv.ErrSyntax" = some 2 by kernel_rfl) hv1 0
  have c2 := ht.cell gPow 0 (by decide)
  exact ⟨m, some a1, some a0, ⟨(cell_lt hm).1, hm⟩, ⟨(cell_lt c3).1, c3⟩, ⟨(cell_lt c0).1, c0⟩, ⟨(cell_lt c2).1, ht⟩⟩
@[reducible] def libs7 : List Fact := [LibF]
theorem hpLaid7 {W : World} (h0 : laidMetH Tryz.prog laid7 W) (hs : W.ShapedOpen Tryz.prog) (F : List Fact) (hF : All F W (oldB W)) : Hp ⟨W, fun _ => False, oldB W⟩ [] (F ++ libs7) W := hp_old W _ fun f hf => by
  have h : laidMet Tryz.prog laid7 W := cast (plain7 W) h0
  rcases List.mem_append.1 hf with h1 | h1
  · exact hF f h1
  · rw [List.mem_singleton.1 h1]; exact libF_of_laid h hs

noncomputable def world7 (os : Os) : World := World.laidAll Tryz.prog os laid7
theorem world7_os (os : Os) : (world7 os).os = os := World.laidAll_os _ _ _
set_option maxRecDepth 100000 in
set_option maxHeartbeats 2000000 in
theorem shaped7 (os : Os) (args : Array Value) : ((world7 os).forCall (fun _ _ => 0) ⟨#[], args, []⟩).Shaped Tryz.prog := by
  have h : (world7 os).Shaped Tryz.prog := World.shaped_of_ZipB (by kernel_rfl) (by kernel_rfl)
  exact h
set_option maxRecDepth 100000 in
set_option maxHeartbeats 2000000 in
theorem met7 (os : Os) (args : Array Value) : laidMetH Tryz.prog laid7 ((world7 os).forCall (fun _ _ => 0) ⟨#[], args, []⟩).memory := by
  exact cast (plain7 _).symm (laidMet_laidAll _ (by kernel_rfl) (by kernel_rfl))
section
variable {H : Type} {enc : TypeId × Value → H} {w : World} {base : Nat} {spare : Nat → Bool} {held : Bool}
instance : Inhabited Tm := ⟨tm0⟩
theorem cell_5 : Tryz.prog.cellsOf 5 = 1 := by kernel_rfl
theorem cell_3 : Tryz.prog.cellsOf 3 = 1 := by kernel_rfl
theorem cell_22 : Tryz.prog.cellsOf 22 = 1 := by kernel_rfl
theorem cell_23 : Tryz.prog.cellsOf 23 = 1 := by kernel_rfl
theorem cell_25 : Tryz.prog.cellsOf 25 = 2 := by kernel_rfl
theorem cell_26 : Tryz.prog.cellsOf 26 = 1 := by kernel_rfl
theorem cell_28 : Tryz.prog.cellsOf 28 = 8 := by kernel_rfl
set_option maxRecDepth 100000 in
theorem trod_tm {n : Nat} {cs : List Value} {x : DataW H × List MemPlace} (h : DataW.trod enc Tryz.prog w base spare held n 28 cs = some x) : ∃ t : Tm, cs = tmC t ∧ TmIn t := by
  obtain ⟨y0, y1, y2, y3, y4, y5, y6, m, hl, h0, h1, h2, h3, h4, h5, h6⟩ := trod_struct7 Tryz.underlying28 h
  rw [cell_28] at hl
  match cs, hl with
  | [c0, c1, c2, c3, c4, c5, c6, c7], _ =>
    simp only [cell_5, cell_3, cell_22, cell_25, cell_26, List.drop_zero, List.drop_succ_cons, List.take_succ_cons, List.take_zero] at h0 h1 h2 h3 h4 h5 h6
    obtain ⟨z0, z1, m', _, _, k0, k1⟩ := trod_struct2 Tryz.underlying25 h2
    simp only [cell_23, cell_5, List.drop_zero, List.drop_succ_cons, List.take_succ_cons, List.take_zero] at k0 k1
    obtain ⟨a0, e0, _, w0⟩ := DataW.trod_int Tryz.underlying5 h0
    obtain ⟨a1, e1, _, w1⟩ := DataW.trod_int Tryz.underlying22 h1
    obtain ⟨b0, f0, _, u0⟩ := DataW.trod_int Tryz.underlying23 k0
    obtain ⟨b1, f1, _, u1⟩ := DataW.trod_int Tryz.underlying5 k1
    obtain ⟨a3, e3, _, w3⟩ := DataW.trod_int Tryz.underlying3 h3
    obtain ⟨a4, e4, _, w4⟩ := DataW.trod_int Tryz.underlying26 h4
    obtain ⟨a5, e5, _, w5⟩ := DataW.trod_int Tryz.underlying22 h5
    obtain ⟨a6, e6, _, w6⟩ := DataW.trod_int Tryz.underlying3 h6
    simp only [List.cons.injEq, and_true] at e0 e1 e3 e4 e5 e6 f0 f1
    subst e0 e1 e3 e4 e5 e6 f0 f1
    exact ⟨⟨a0, a1, b0, b1, a3, a4, a5, a6⟩, rfl, inK_of_wf w0, inK_of_wf w1, inK_of_wf u0, inK_of_wf u1, inK_of_wf w3, inK_of_wf w4, inK_of_wf w5, inK_of_wf w6⟩
set_option maxRecDepth 100000 in
theorem open_tm {b0 : Nat} {v : Value} {d : DataW H} {p : List MemPlace} (hv : Value.okWide Tryz.prog w .any b0 28 v) (h : DataW.Trod enc Tryz.prog w base spare held 28 v d p) : ∃ t : Tm, v = tmV t ∧ TmIn t := by
  obtain ⟨cs, rfl, hsz⟩ := okWide_struct Tryz.underlying28 hv
  obtain ⟨n, hn⟩ := h
  obtain ⟨t, e, hin⟩ := trod_tm hn
  refine ⟨t, ?_, hin⟩
  have e : cs.toList = tmC t := e
  have e2 : cs = (tmC t).toArray := by rw [← e]
  rw [e2]
end
end Go.Proofs.YtjlfjjgjghdokaaGreatDoor
set_option linter.unusedVariables false
namespace Go.Pl
def val : List Nat → Nat
  | [] => 0
  | x :: r => x + 65536 * val r
theorem val_app : ∀ a b : List Nat, val (a ++ b) = val a + 65536 ^ a.length * val b
  | [], b => by simp [val]
  | x :: a, b => by
    rw [List.cons_append, val, val_app a b, val, List.length_cons, Nat.pow_succ, Nat.mul_add]
    have : 65536 ^ a.length * 65536 * val b = 65536 * (65536 ^ a.length * val b) := by rw [Nat.mul_comm (65536 ^ a.length) 65536, Nat.mul_assoc]
    omega
theorem val_set : ∀ (l : List Nat) (k v old : Nat), l[k]? = some old → val (l.set k v) + 65536 ^ k * old = val l + 65536 ^ k * v
  | [], k, v, old, h => by simp at h
  | x :: l, 0, v, old, h => by
    simp only [List.getElem?_cons_zero, Option.some.injEq] at h
    subst h
    simp only [List.set_cons_zero, val, Nat.pow_zero, Nat.one_mul]
    omega
  | x :: l, k + 1, v, old, h => by
    have ih := val_set l k v old (by simpa using h)
    simp only [List.set_cons_succ, val]
    have e : ∀ z, 65536 ^ (k + 1) * z = 65536 * (65536 ^ k * z) := fun z => by rw [Nat.pow_succ, Nat.mul_comm (65536 ^ k) 65536, Nat.mul_assoc]
    rw [e, e]
    omega
theorem val_add {l : List Nat} {k old d : Nat} (h : l[k]? = some old) : val (l.set k (old + d)) = val l + 65536 ^ k * d := by
  have := val_set l k (old + d) old h
  rw [Nat.mul_add] at this
  omega
theorem val_lt : ∀ (l : List Nat), (∀ x, x ∈ l → x < 65536) → val l < 65536 ^ l.length
  | [], _ => by simp [val]
  | x :: l, h => by
    have h0 := h x List.mem_cons_self
    have ih := val_lt l fun y hy => h y (List.mem_cons_of_mem _ hy)
    rw [val, List.length_cons, Nat.pow_succ]
    have : 65536 * (val l + 1) ≤ 65536 * 65536 ^ l.length := Nat.mul_le_mul_left _ ih
    rw [Nat.mul_comm (65536 ^ l.length)]
    omega
theorem val_at : ∀ (l : List Nat) (i x : Nat), (∀ y, y ∈ l → y < 65536) → l[i]? = some x → val l / 65536 ^ i % 65536 = x
  | [], i, x, _, h => by simp at h
  | y :: l, 0, x, hl, h => by
    simp only [List.getElem?_cons_zero, Option.some.injEq] at h
    subst h
    have := hl y List.mem_cons_self
    rw [Nat.pow_zero, Nat.div_one, val]
    omega
  | y :: l, i + 1, x, hl, h => by
    have ih := val_at l i x (fun z hz => hl z (List.mem_cons_of_mem _ hz)) (by simpa using h)
    have := hl y List.mem_cons_self
    rw [Nat.pow_succ, Nat.mul_comm, ← Nat.div_div_eq_div_mul, val]
    have e : (y + 65536 * val l) / 65536 = val l := by omega
    rw [e]
    exact ih
theorem val_take_succ {l : List Nat} {k x : Nat} (h : l[k]? = some x) : val (l.take (k + 1)) = val (l.take k) + 65536 ^ k * x := by
  have hk : k < l.length := (List.getElem?_eq_some_iff.1 h).1
  rw [List.take_add_one, h, val_app, List.length_take, Nat.min_eq_left (by omega)]
  simp [val]
def dig : Nat → Nat → List Nat
  | 0, _ => []
  | k + 1, n => n % 65536 :: dig k (n / 65536)
theorem dig_len : ∀ k n, (dig k n).length = k
  | 0, _ => rfl
  | k + 1, n => by rw [dig, List.length_cons, dig_len]
theorem dig_lt : ∀ k n x, x ∈ dig k n → x < 65536
  | 0, _, x, h => by cases h
  | k + 1, n, x, h => by
    rw [dig] at h
    rcases List.mem_cons.1 h with h | h
    · rw [h]; exact Nat.mod_lt _ (by decide)
    · exact dig_lt k _ x h
theorem dig_val : ∀ k n, n < 65536 ^ k → val (dig k n) = n
  | 0, n, h => by rw [Nat.pow_zero] at h; rw [dig, val]; omega
  | k + 1, n, h => by
    rw [dig, val, dig_val k (n / 65536) (by rw [Nat.pow_succ] at h; exact Nat.div_lt_of_lt_mul (by rw [Nat.mul_comm]; exact h))]
    omega
/-- The parts of two words. -/
def ofL (hi lo : Nat) : List Nat := dig 4 lo ++ dig 4 hi
theorem ofL_len (hi lo : Nat) : (ofL hi lo).length = 8 := by unfold ofL; rw [List.length_append, dig_len, dig_len]
theorem ofL_lt (hi lo : Nat) : ∀ x, x ∈ ofL hi lo → x < 65536 := fun x h => by
  unfold ofL at h
  rcases List.mem_append.1 h with h | h <;> exact dig_lt _ _ x h
def itd (n : Nat) : Nat → Nat
  | 0 => n
  | i + 1 => itd n i / 65536
theorem itd_le (n : Nat) : ∀ i, itd n i ≤ n
  | 0 => Nat.le_refl _
  | i + 1 => Nat.le_trans (Nat.div_le_self _ _) (itd_le n i)
def ofAt (hi lo : Nat) : Nat → List Nat
  | 0 => [0, 0, 0, 0, 0, 0, 0, 0]
  | 1 => [itd lo 0 % 65536, 0, 0, 0, itd hi 0 % 65536, 0, 0, 0]
  | 2 => [itd lo 0 % 65536, itd lo 1 % 65536, 0, 0, itd hi 0 % 65536, itd hi 1 % 65536, 0, 0]
  | 3 => [itd lo 0 % 65536, itd lo 1 % 65536, itd lo 2 % 65536, 0, itd hi 0 % 65536, itd hi 1 % 65536, itd hi 2 % 65536, 0]
  | _ => [itd lo 0 % 65536, itd lo 1 % 65536, itd lo 2 % 65536, itd lo 3 % 65536, itd hi 0 % 65536, itd hi 1 % 65536, itd hi 2 % 65536, itd hi 3 % 65536]
theorem ofAt_len (hi lo : Nat) (i : Nat) (h : i ≤ 4) : (ofAt hi lo i).length = 8 := by
  match i, h with
  | 0, _ => rfl
  | 1, _ => rfl
  | 2, _ => rfl
  | 3, _ => rfl
  | 4, _ => rfl
theorem ofAt_step (hi lo : Nat) (i : Nat) (h : i < 4) : ((ofAt hi lo i).set i (itd lo i % 65536)).set (i + 4) (itd hi i % 65536) = ofAt hi lo (i + 1) := by
  match i, h with
  | 0, _ => rfl
  | 1, _ => rfl
  | 2, _ => rfl
  | 3, _ => rfl
theorem ofAt_end (hi lo : Nat) : ofAt hi lo 4 = ofL hi lo := rfl
/-! Mul: part by part. -/
structure MulI (x y : List Nat) (i j : Nat) (s : List Nat) : Prop where
  len : s.length = 9
  v : ∀ xi, x[i]? = some xi → val s = val (x.take i) * val (y.take 4) + 65536 ^ i * (xi * val (y.take j))
  b : ∀ e, e ∈ s → e ≤ (4 * i + j) * 65536
theorem mb (i j : Nat) {e : Nat} (h : e ≤ (4 * i + j) * 65536) : e ≤ (4 * i + (j + 1)) * 65536 := Nat.le_trans h (Nat.mul_le_mul_right _ (Nat.le_succ _))
theorem mb2 (i j : Nat) {a r : Nat} (h : a ≤ (4 * i + j) * 65536) (hr : r < 65536) : a + r ≤ (4 * i + (j + 1)) * 65536 := by
  rw [← Nat.add_assoc, Nat.succ_mul]
  exact Nat.add_le_add h (Nat.le_of_lt hr)
theorem dvb {p : Nat} (h : p ≤ 65535 * 65535) : p / 65536 < 65536 := Nat.div_lt_of_lt_mul (Nat.lt_of_le_of_lt h (by decide))
theorem MulI.step {x y : List Nat} {i j : Nat} {s : List Nat} (h : MulI x y i j s) (hi : i < 4) (hj : j < 4) {xi yj a b : Nat} (hx : x[i]? = some xi) (hy : y[j]? = some yj) (hxl : xi < 65536) (hyl : yj < 65536) (ha : s[i + j]? = some a)
    (hb : (s.set (i + j) (a + xi * yj % 65536))[i + j + 1]? = some b) : MulI x y i (j + 1) ((s.set (i + j) (a + xi * yj % 65536)).set (i + j + 1) (b + xi * yj / 65536)) := by
  have hp : xi * yj ≤ 65535 * 65535 := Nat.mul_le_mul (Nat.le_of_lt_succ hxl) (Nat.le_of_lt_succ hyl)
  have hb0 : s[i + j + 1]? = some b := by rw [List.getElem?_set_ne (by omega)] at hb; exact hb
  have ba := h.b a (List.mem_of_getElem? ha)
  have bb := h.b b (List.mem_of_getElem? hb0)
  refine ⟨by rw [List.length_set, List.length_set]; exact h.len, fun xi' hx' => ?_, fun e he => ?_⟩
  · rw [hx] at hx'
    injection hx' with hx'
    subst hx'
    rw [val_add hb, val_add ha, h.v xi hx, val_take_succ hy]
    have e1 : 65536 ^ (i + j + 1) * (xi * yj / 65536) = 65536 ^ (i + j) * (65536 * (xi * yj / 65536)) := by rw [Nat.pow_succ, Nat.mul_assoc]
    have e2 : 65536 ^ (i + j) * (xi * yj % 65536) + 65536 ^ (i + j) * (65536 * (xi * yj / 65536)) = 65536 ^ (i + j) * (xi * yj) := by rw [← Nat.mul_add, Nat.mod_add_div]
    have e3 : 65536 ^ i * (xi * (val (y.take j) + 65536 ^ j * yj)) = 65536 ^ i * (xi * val (y.take j)) + 65536 ^ (i + j) * (xi * yj) := by
      rw [Nat.mul_add, Nat.mul_add, Nat.pow_add]
      congr 1
      rw [← Nat.mul_assoc xi, Nat.mul_comm xi (65536 ^ j), Nat.mul_assoc (65536 ^ j), ← Nat.mul_assoc (65536 ^ i)]
    rw [e3, e1]
    omega
  · rcases List.mem_or_eq_of_mem_set he with he | he
    · rcases List.mem_or_eq_of_mem_set he with he | he
      · exact mb i j (h.b e he)
      · rw [he]; exact mb2 i j ba (Nat.mod_lt _ (by decide))
    · rw [he]; exact mb2 i j bb (dvb hp)
theorem MulI.next {x y : List Nat} {i : Nat} {s : List Nat} (h : MulI x y i 4 s) (hx : i < x.length) : MulI x y (i + 1) 0 s := by
  obtain ⟨xi, hxi⟩ : ∃ xi, x[i]? = some xi := ⟨_, List.getElem?_eq_getElem hx⟩
  refine ⟨h.len, fun z hz => ?_, fun e he => by have := h.b e he; omega⟩
  rw [h.v xi hxi, val_take_succ hxi, List.take_zero, val, Nat.mul_zero, Nat.mul_zero, Nat.add_zero, Nat.add_mul, Nat.mul_assoc]
theorem MulI.start (x y : List Nat) : MulI x y 0 0 [0, 0, 0, 0, 0, 0, 0, 0, 0] := by
  refine ⟨rfl, fun xi hx => ?_, fun e he => ?_⟩
  · rw [List.take_zero, List.take_zero, val, Nat.mul_zero, Nat.zero_mul, Nat.mul_zero]; rfl
  · simp at he; omega
structure CarI (s : List Nat) (k : Nat) (out : List Nat) (over : Nat) : Prop where
  len : out.length = 8
  lt : ∀ x, x ∈ out → x < 65536
  z : ∀ i, k ≤ i → i < 8 → out[i]? = some 0
  v : val out + 65536 ^ k * over = val (s.take k)
  o : over ≤ 17
theorem CarI.start (s : List Nat) : CarI s 0 [0, 0, 0, 0, 0, 0, 0, 0] 0 := by
  refine ⟨rfl, fun x h => by simp at h; omega, fun i _ h => ?_, by rw [List.take_zero]; rfl, by decide⟩
  show (List.replicate 8 0)[i]? = some 0
  rw [List.getElem?_replicate, if_pos h]
theorem CarI.step {s out : List Nat} {k over e : Nat} (h : CarI s k out over) (hk : k < 8) (hs : s[k]? = some e) (he : e ≤ 16 * 65536) : CarI s (k + 1) (out.set k ((e + over) % 65536)) ((e + over) / 65536) := by
  have ho := h.o
  have hz := h.z k (Nat.le_refl _) hk
  refine ⟨by rw [List.length_set]; exact h.len, fun x hx => ?_, fun i h1 h2 => ?_, ?_, by omega⟩
  · rcases List.mem_or_eq_of_mem_set hx with hx | hx
    · exact h.lt x hx
    · rw [hx]; exact Nat.mod_lt _ (by decide)
  · rw [List.getElem?_set_ne (by omega)]; exact h.z i (by omega) h2
  · have e1 := val_set out k ((e + over) % 65536) 0 hz
    rw [Nat.mul_zero, Nat.add_zero] at e1
    rw [e1, val_take_succ hs, ← h.v]
    have e2 : 65536 ^ (k + 1) * ((e + over) / 65536) = 65536 ^ k * (65536 * ((e + over) / 65536)) := by rw [Nat.pow_succ, Nat.mul_assoc]
    have e3 : 65536 ^ k * ((e + over) % 65536) + 65536 ^ k * (65536 * ((e + over) / 65536)) = 65536 ^ k * (e + over) := by rw [← Nat.mul_add, Nat.mod_add_div]
    rw [Nat.mul_add] at e3
    rw [e2]
    omega
theorem mul_end {s out : List Nat} {over a b : Nat} (hl : s.length = 9) (hv : val s = a * b) (h : CarI s 8 out over) (ha : a < 18446744073709551616) (hb : b < 18446744073709551616) : val out = a * b := by
  obtain ⟨e, he⟩ : ∃ e, s[8]? = some e := ⟨_, List.getElem?_eq_getElem (by omega)⟩
  have h9 : s.take 9 = s := List.take_of_length_le (by omega)
  have e1 := val_take_succ he
  rw [h9, hv, ← h.v] at e1
  have hab : a * b < 340282366920938463463374607431768211456 := Nat.lt_of_lt_of_le (Nat.mul_lt_mul_of_lt_of_le ha (Nat.le_of_lt hb) (by omega)) (by decide)
  have e8 : (65536 : Nat) ^ 8 = 340282366920938463463374607431768211456 := by decide
  rw [e8] at e1
  omega
/-! Div: bit by bit. -/
theorem bit_of {A k r x : Nat} (h : A / 65536 ^ k % 65536 = x) (hr : r < 16) : x / 2 ^ r % 2 = A / 2 ^ (16 * k + r) % 2 := by
  subst h
  have e : (65536 : Nat) = 2 ^ r * 2 ^ (16 - r) := by rw [← Nat.pow_add, show r + (16 - r) = 16 by omega]
  have e2 : (65536 : Nat) ^ k = 2 ^ (16 * k) := by rw [Nat.pow_mul]
  have e3 : A / 65536 ^ k % 65536 / 2 ^ r = A / 65536 ^ k / 2 ^ r % 2 ^ (16 - r) := by
    have := Nat.mod_mul_right_div_self (A / 65536 ^ k) (2 ^ r) (2 ^ (16 - r))
    rw [← e] at this
    exact this
  rw [e3, Nat.mod_mod_of_dvd _ (Nat.dvd_trans (by decide : (2 : Nat) ∣ 2 ^ 1) (Nat.pow_dvd_pow 2 (by omega))), e2, Nat.div_div_eq_div_mul, ← Nat.pow_add]
structure DivI (A n t : Nat) (out : List Nat) (left : Nat) : Prop where
  len : out.length = 8
  lt : ∀ x, x ∈ out → x < 65536
  v : val out = A / 2 ^ t / n * 2 ^ t
  l : left = A / 2 ^ t % n
theorem half {A t : Nat} : A / 2 ^ t = 2 * (A / 2 ^ (t + 1)) + A / 2 ^ t % 2 := by
  have e : A / 2 ^ (t + 1) = A / 2 ^ t / 2 := by rw [Nat.pow_succ, Nat.div_div_eq_div_mul]
  rw [e]; omega
theorem div_two {q l bit n : Nat} (hl : l < n) (hb : bit < 2) : (n ≤ 2 * l + bit → (2 * (q * n + l) + bit) / n = 2 * q + 1 ∧ (2 * (q * n + l) + bit) % n = 2 * l + bit - n) ∧ (¬ n ≤ 2 * l + bit → (2 * (q * n + l) + bit) / n = 2 * q ∧ (2 * (q * n + l) + bit) % n = 2 * l + bit) := by
  have e : 2 * (q * n + l) + bit = (2 * l + bit) + n * (2 * q) := by
    rw [Nat.mul_add, ← Nat.mul_assoc, Nat.mul_comm (2 * q) n]; omega
  have hn : 0 < n := by omega
  constructor
  · intro h
    have e2 : 2 * (q * n + l) + bit = (2 * l + bit - n) + n * (2 * q + 1) := by rw [e, Nat.mul_add, Nat.mul_one]; omega
    rw [e2, Nat.add_mul_div_left _ _ hn, Nat.add_mul_mod_self_left, Nat.div_eq_of_lt (by omega), Nat.mod_eq_of_lt (by omega)]
    exact ⟨by omega, rfl⟩
  · intro h
    rw [e, Nat.add_mul_div_left _ _ hn, Nat.add_mul_mod_self_left, Nat.div_eq_of_lt (by omega), Nat.mod_eq_of_lt (by omega)]
    exact ⟨by omega, rfl⟩
/-- A bit that is not there yet: the part where it goes. -/
theorem free_bit {out : List Nat} {q t x : Nat} (hlt : ∀ y, y ∈ out → y < 65536) (hv : val out = q * 2 ^ (t + 1)) (hx : out[t / 16]? = some x) : ∃ a, x = a * 2 ^ (t % 16 + 1) ∧ x + 2 ^ (t % 16) < 65536 := by
  have h1 := val_at out (t / 16) x hlt hx
  have hxl := hlt x (List.mem_of_getElem? hx)
  have hr : t % 16 < 16 := Nat.mod_lt _ (by decide)
  have ht : t = 16 * (t / 16) + t % 16 := by omega
  have e2 : (65536 : Nat) ^ (t / 16) = 2 ^ (16 * (t / 16)) := by rw [Nat.pow_mul]
  have e3 : val out / 65536 ^ (t / 16) = q * 2 ^ (t % 16 + 1) := by
    rw [hv, e2, show t + 1 = (t % 16 + 1) + 16 * (t / 16) by omega, Nat.pow_add, ← Nat.mul_assoc, Nat.mul_div_cancel _ (Nat.pow_pos (by decide))]
  rw [e3] at h1
  have e : (65536 : Nat) = 2 ^ (15 - t % 16) * 2 ^ (t % 16 + 1) := by rw [← Nat.pow_add, show 15 - t % 16 + (t % 16 + 1) = 16 by omega]
  have hpos : 0 < 2 ^ (t % 16 + 1) := Nat.pow_pos (by decide)
  have hm : q * 2 ^ (t % 16 + 1) % 65536 = q % 2 ^ (15 - t % 16) * 2 ^ (t % 16 + 1) := by
    have := Nat.mul_mod_mul_right (2 ^ (t % 16 + 1)) q (2 ^ (15 - t % 16))
    rw [← e] at this
    exact this
  rw [hm] at h1
  refine ⟨q % 2 ^ (15 - t % 16), h1.symm, ?_⟩
  have hlt2 : q % 2 ^ (15 - t % 16) + 1 ≤ 2 ^ (15 - t % 16) := Nat.mod_lt _ (Nat.pow_pos (by decide))
  have := Nat.mul_le_mul_right (2 ^ (t % 16 + 1)) hlt2
  rw [← e, Nat.add_mul, Nat.one_mul, h1] at this
  have h2 : 2 ^ (t % 16) < 2 ^ (t % 16 + 1) := Nat.pow_lt_pow_right (by decide) (by omega)
  omega
theorem DivI.yes {A n t : Nat} {out : List Nat} {left x : Nat} (h : DivI A n (t + 1) out left) (hn : 0 < n) (hx : out[t / 16]? = some x) (hq : n ≤ 2 * left + A / 2 ^ t % 2) : DivI A n t (out.set (t / 16) (x + 2 ^ (t % 16))) (2 * left + A / 2 ^ t % 2 - n) := by
  obtain ⟨a, ha, hb⟩ := free_bit h.lt h.v hx
  have hl : left < n := by rw [h.l]; exact Nat.mod_lt _ hn
  have hd := (div_two (q := A / 2 ^ (t + 1) / n) (bit := A / 2 ^ t % 2) hl (Nat.mod_lt _ (by decide))).1 hq
  have eA : 2 * (A / 2 ^ (t + 1) / n * n + left) + A / 2 ^ t % 2 = A / 2 ^ t := by
    rw [h.l, Nat.mul_comm (A / 2 ^ (t + 1) / n) n, Nat.div_add_mod]
    exact half.symm
  rw [eA] at hd
  refine ⟨by rw [List.length_set]; exact h.len, fun y hy => ?_, ?_, hd.2.symm⟩
  · rcases List.mem_or_eq_of_mem_set hy with hy | hy
    · exact h.lt y hy
    · rw [hy]; exact hb
  · rw [val_add hx, h.v, hd.1]
    have e2 : (65536 : Nat) ^ (t / 16) * 2 ^ (t % 16) = 2 ^ t := by
      rw [show (65536 : Nat) ^ (t / 16) = 2 ^ (16 * (t / 16)) by rw [Nat.pow_mul], ← Nat.pow_add, show 16 * (t / 16) + t % 16 = t by omega]
    rw [e2, Nat.pow_succ, Nat.add_mul, Nat.one_mul]
    congr 1
    rw [Nat.mul_comm (2 ^ t) 2, ← Nat.mul_assoc, Nat.mul_comm _ 2]
theorem DivI.no {A n t : Nat} {out : List Nat} {left : Nat} (h : DivI A n (t + 1) out left) (hn : 0 < n) (hq : ¬ n ≤ 2 * left + A / 2 ^ t % 2) : DivI A n t out (2 * left + A / 2 ^ t % 2) := by
  have hl : left < n := by rw [h.l]; exact Nat.mod_lt _ hn
  have hd := (div_two (q := A / 2 ^ (t + 1) / n) (bit := A / 2 ^ t % 2) hl (Nat.mod_lt _ (by decide))).2 hq
  have eA : 2 * (A / 2 ^ (t + 1) / n * n + left) + A / 2 ^ t % 2 = A / 2 ^ t := by
    rw [h.l, Nat.mul_comm (A / 2 ^ (t + 1) / n) n, Nat.div_add_mod]
    exact half.symm
  rw [eA] at hd
  refine ⟨h.len, h.lt, ?_, hd.2.symm⟩
  rw [h.v, hd.1, Nat.pow_succ, Nat.mul_comm (2 ^ t) 2, ← Nat.mul_assoc, Nat.mul_comm _ 2]
theorem DivI.start {A n : Nat} (hA : A < 2 ^ 128) : DivI A n 128 [0, 0, 0, 0, 0, 0, 0, 0] 0 := by
  have e : A / 2 ^ 128 = 0 := Nat.div_eq_of_lt hA
  exact ⟨rfl, fun x h => by simp at h; omega, by rw [e, Nat.zero_div, Nat.zero_mul]; rfl, by rw [e, Nat.zero_mod]⟩
theorem DivI.fin {A n : Nat} {out : List Nat} {left : Nat} (h : DivI A n 0 out left) : val out = A / n ∧ left = A % n := by
  have hv := h.v
  have hl := h.l
  rw [Nat.pow_zero, Nat.div_one] at hv hl
  rw [Nat.mul_one] at hv
  exact ⟨hv, hl⟩
/-! The months' nearest. -/
theorem round_month {x : Nat} : (if (6000000 : Nat) ≤ x % 12000000 then x / 12000000 + 1 else x / 12000000) = (if x * 30 % 360000000 < 360000000 - x * 30 % 360000000 then x * 30 / 360000000 else x * 30 / 360000000 + 1) := by
  have e1 : x * 30 / 360000000 = x / 12000000 := by omega
  have e2 : x * 30 % 360000000 = 30 * (x % 12000000) := by omega
  rw [e1, e2]
  split <;> split <;> omega
end Go.Pl
set_option linter.unusedVariables false
namespace Go.Proofs.YtjlfjjgjghdokaaGreatDoor
open Go Go.Proofs Go.Wk Go.Pl
@[reducible] def bigC (l : List Nat) : List Value := l.map fun x : Nat => Value.int .u32 (x : Int)
@[reducible] def bigV (l : List Nat) : Value := .agg (bigC l).toArray
@[reducible] def wC (l : List Nat) : List Value := l.map fun x : Nat => Value.int .u64 (x : Int)
theorem ldAt {l : List Nat} {k x : Nat} (h : l[k]? = some x) : ldV (tb 23) (bigC l) (0 + k * 1) = some (.int .u32 (x : Int)) := by
  rw [Nat.zero_add, Nat.mul_one]
  show (bigC l)[k]? = _
  rw [List.getElem?_map, h]; rfl
theorem ldAtW {l : List Nat} {k x : Nat} (h : l[k]? = some x) : ldV (tb 42) (wC l) (0 + k * 1) = some (.int .u64 (x : Int)) := by
  rw [Nat.zero_add, Nat.mul_one]
  show (wC l)[k]? = _
  rw [List.getElem?_map, h]; rfl
theorem stAt (l : List Nat) (k v : Nat) {u : Int} (hu : u = (v : Int)) : setL (bigC l) (0 + k * 1) [.int .u32 u] = bigC (l.set k v) := by
  subst hu
  rw [Nat.zero_add, Nat.mul_one]
  show (bigC l).set k _ = _
  simp [bigC, List.map_set]
theorem stAtW (l : List Nat) (k v : Nat) {u : Int} (hu : u = (v : Int)) : setL (wC l) (0 + k * 1) [.int .u64 u] = wC (l.set k v) := by
  subst hu
  rw [Nat.zero_add, Nat.mul_one]
  show (wC l).set k _ = _
  simp [wC, List.map_set]
theorem bleB {l : List Nat} {k n : Nat} (hl : l.length = n) (h : k < n) : Nat.ble (0 + k * 1 + 1) (bigC l).length = true := by
  rw [List.length_map, hl]; exact Nat.ble_eq_true_of_le (by omega)
theorem bleW {l : List Nat} {k n : Nat} (hl : l.length = n) (h : k < n) : Nat.ble (0 + k * 1 + 1) (wC l).length = true := by
  rw [List.length_map, hl]; exact Nat.ble_eq_true_of_le (by omega)
theorem ldBig : ∀ {l : List Nat}, l.length = 8 → ldV (tb 203) (bigC l) 0 = some (bigV l)
  | [_, _, _, _, _, _, _, _], _ => rfl
theorem bigHs : ∀ {l : List Nat}, l.length = 8 → Nat.beq (bigV l).cells.toList.length 8 = true
  | [_, _, _, _, _, _, _, _], _ => rfl
theorem bigHl : ∀ {l z : List Nat}, l.length = 8 → z.length = 8 → Nat.ble (0 + (bigV l).cells.toList.length) (bigC z).length = true
  | [_, _, _, _, _, _, _, _], [_, _, _, _, _, _, _, _], _, _ => rfl
theorem bigH1 : ∀ {l : List Nat}, l.length = 8 → allOne (bigV l).cells.toList = true
  | [_, _, _, _, _, _, _, _], _ => rfl
theorem bigHc : ∀ {l z : List Nat}, l.length = 8 → z.length = 8 → setL (bigC z) 0 (bigV l).cells.toList = bigC l
  | [_, _, _, _, _, _, _, _], [_, _, _, _, _, _, _, _], _, _ => rfl
theorem u32d (x : Nat) : IntKind.u32.wrap ((x % 65536 : Nat) : Int) = ((x % 65536 : Nat) : Int) := wrap_id ⟨by show (0 : Int) ≤ _; omega, by show _ ≤ (4294967295 : Int); omega⟩
theorem u64s {x : Nat} (h : x < 65536) : IntKind.u64.wrap (x : Int) = (x : Int) := u64n (by omega)
theorem get8 {l : List Nat} {n k : Nat} (hl : l.length = n) (h : k < n) : ∃ x, l[k]? = some x := ⟨_, List.getElem?_eq_getElem (by omega)⟩
set_option maxHeartbeats 2000000 in
set_option maxRecDepth 20000 in
theorem refOf (hi lo : Nat) (hh : hi < 18446744073709551616) (hl : lo < 18446744073709551616) : CB 103 [.int .u64 hi, .int .u64 lo] (bigV (ofL hi lo)) := by
  intro w M I H
  refine Exe.of_ev tok Tryz.call103 Tryz.func103 rfl rfl rfl ?_
  refine alloc_as tok H (bigC [0, 0, 0, 0, 0, 0, 0, 0]) rfl rfl rfl fun r w1 H1 => ?_
  refine alloc_as tok H1 (bigC [0, 0, 0, 0, 0, 0, 0, 0]) rfl rfl rfl fun b w2 H2 => ?_
  have H2 : Hp ⟨w, M, I⟩ [blk b (bigC (ofAt hi lo 0)) 203, blk r (bigC [0, 0, 0, 0, 0, 0, 0, 0]) 203] [] w2 := H2
  refine loop_rule tok (σ := Nat) 67108803 (fun i => [(6, .int .i64 (i : Int)), (1, .int .u64 ((itd lo i : Nat) : Int)), (0, .int .u64 ((itd hi i : Nat) : Int))]) (fun i w' => i ≤ 4 ∧ Hp ⟨w, M, I⟩ [blk b (bigC (ofAt hi lo i)) 203, blk r (bigC [0, 0, 0, 0, 0, 0, 0, 0]) 203] [] w') (fun i => 4 - i) 0 rfl rfl ⟨rfl, rfl, rfl, trivial⟩ ⟨Nat.zero_le _, H2⟩ ?_
  intro i j w3 hW
  have hi4 := hW.1
  have H3 := hW.2
  refine brd (fun q => ?_) (fun q => ?_)
  · have q : (i : Int) < 4 := q
    have q' : i < 4 := by omega
    have ew : IntKind.i64.wrap ((i : Int) + 1) = ((i + 1 : Nat) : Int) := w64 (by omega) (by omega)
    have ew4 : IntKind.i64.wrap ((i : Int) + 4) = ((i + 4 : Nat) : Int) := w64 (by omega) (by omega)
    have e1 : IntKind.u64.wrap ((((itd lo i : Nat) : Int)).tdiv 65536) = ((itd lo (i + 1) : Nat) : Int) := u64n (Nat.lt_of_le_of_lt (itd_le lo (i + 1)) hl)
    have e2 : IntKind.u64.wrap ((((itd hi i : Nat) : Int)).tdiv 65536) = ((itd hi (i + 1) : Nat) : Int) := u64n (Nat.lt_of_le_of_lt (itd_le hi (i + 1)) hh)
    have hlen := ofAt_len hi lo i hi4
    refine rem_as ((itd lo i % 65536 : Nat) : Int) (by decide) rfl ?_
    refine rem_as ((itd hi i % 65536 : Nat) : Int) (by decide) rfl ?_
    refine arrIx_rule tok i rfl rfl rfl (sz := 1) rfl (show i < 8 by omega) ?_
    refine store_as tok H3 (bigC ((ofAt hi lo i).set i (itd lo i % 65536))) rfl rfl (bleB hlen (by omega)) rfl (stAt _ _ _ (u32d _)) fun w4 H4 => ?_
    refine arrIx_rule tok (i + 4) ew4 rfl rfl (sz := 1) rfl (show i + 4 < 8 by omega) ?_
    refine store_as tok H4 (bigC (((ofAt hi lo i).set i (itd lo i % 65536)).set (i + 4) (itd hi i % 65536))) rfl rfl (bleB (n := 8) (by rw [List.length_set]; exact hlen) (by omega)) rfl (stAt _ _ _ (u32d _)) fun w5 H5 => ?_
    rw [ofAt_step hi lo i q'] at H5
    refine quo_as ((itd lo (i + 1) : Nat) : Int) (by decide) e1 ?_
    refine quo_as ((itd hi (i + 1) : Nat) : Int) (by decide) e2 ?_
    exact Exists.intro (i + 1) (And.intro ⟨congrArg (Value.int .i64) ew, rfl, rfl, trivial⟩ (And.intro (by show 4 - (i + 1) < 4 - i; omega) ⟨by omega, H5⟩))
  · have q : ¬ (i : Int) < 4 := q
    have e4 : ofAt hi lo i = ofL hi lo := by
      have : i = 4 := by omega
      rw [this]; exact ofAt_end hi lo
    rw [e4] at H3
    have hlen := ofL_len hi lo
    refine load_rule tok H3 (v := bigV (ofL hi lo)) (ldBig hlen) ?_
    refine store_as tok H3 (bigC (ofL hi lo)) rfl (bigHs hlen) (bigHl hlen rfl) (bigH1 hlen) (bigHc hlen rfl) fun w4 H4 => ?_
    refine Exists.intro ⟨r, 0, none⟩ (Exists.intro (bigV (ofL hi lo)) (And.intro rfl (And.intro (Hp.ld (T := tb) tok H4 (ldBig hlen)) ?_)))
    exact Exists.intro () (And.intro rfl (And.intro trivial (Hp.keep H4)))
theorem mulw {x y : Nat} (hx : x < 65536) (hy : y < 65536) : IntKind.u64.wrap (IntKind.u64.wrap (x : Int) * IntKind.u64.wrap (y : Int)) = ((x * y : Nat) : Int) := by
  have h : x * y ≤ 65535 * 65535 := Nat.mul_le_mul (Nat.le_of_lt_succ hx) (Nat.le_of_lt_succ hy)
  rw [u64s hx, u64s hy, ← Int.natCast_mul]
  exact u64n (Nat.lt_of_le_of_lt h (by decide))
theorem addw {x y : Nat} (hx : x ≤ 2000000) (hy : y < 65536) : IntKind.u64.wrap ((x : Int) + (y : Int)) = ((x + y : Nat) : Int) := by
  rw [← Int.natCast_add]
  exact u64n (by omega)
theorem ofX (a : Nat) (i : Nat) (h : i < 4) : ∃ x, (ofL 0 a)[i]? = some x ∧ x < 65536 := by
  obtain ⟨x, hx⟩ := get8 (ofL_len 0 a) (show i < 8 by omega)
  exact ⟨x, hx, ofL_lt 0 a x (List.mem_of_getElem? hx)⟩
theorem ofL_val {a : Nat} (h : a < 18446744073709551616) : val ((ofL 0 a).take 4) = a := by
  have e : (ofL 0 a).take 4 = dig 4 a := rfl
  rw [e]
  exact dig_val 4 a (Nat.lt_of_lt_of_le h (by decide))
theorem mul16 {i j b : Nat} (hi : i ≤ 4) (hj : j ≤ 4) (h : b ≤ (4 * i + j) * 65536) : b ≤ 2000000 := by
  have : (4 * i + j) * 65536 ≤ 20 * 65536 := Nat.mul_le_mul_right _ (by omega)
  omega
set_option maxHeartbeats 4000000 in
set_option maxRecDepth 20000 in
theorem refMul (a b : Nat) (ha : a < 18446744073709551616) (hb : b < 18446744073709551616) : ∀ (w : World) (M I : BS), Hp ⟨w, M, I⟩ [] [] w → Ctr Tryz.prog 102 [.int .u64 a, .int .u64 b] w M I (fun l : List Nat => bigV l) (fun l => l.length = 8 ∧ (∀ x, x ∈ l → x < 65536) ∧ val l = a * b) (fun _ => []) (fun _ => []) := by
  intro w M I H
  obtain ⟨XA, hXA⟩ : ∃ XA, XA = ofL 0 a := ⟨_, rfl⟩
  obtain ⟨YA, hYA⟩ : ∃ YA, YA = ofL 0 b := ⟨_, rfl⟩
  have lX : XA.length = 8 := by rw [hXA]; exact ofL_len 0 a
  have lY : YA.length = 8 := by rw [hYA]; exact ofL_len 0 b
  have cX : CB 103 [.int .u64 0, .int .u64 a] (bigV XA) := by rw [hXA]; exact refOf 0 a (by decide) ha
  have cY : CB 103 [.int .u64 0, .int .u64 b] (bigV YA) := by rw [hYA]; exact refOf 0 b (by decide) hb
  have vX : val (XA.take 4) = a := by rw [hXA]; exact ofL_val ha
  have vY : val (YA.take 4) = b := by rw [hYA]; exact ofL_val hb
  have gX : ∀ i, i < 4 → ∃ x, XA[i]? = some x ∧ x < 65536 := fun i h => by rw [hXA]; exact ofX a i h
  have gY : ∀ i, i < 4 → ∃ x, YA[i]? = some x ∧ x < 65536 := fun i h => by rw [hYA]; exact ofX b i h
  refine Exe.of_ev tok Tryz.call102 Tryz.func102 rfl rfl rfl ?_
  refine alloc_as tok H (bigC [0, 0, 0, 0, 0, 0, 0, 0]) rfl rfl rfl fun r w1 H1 => ?_
  refine call_rule H1 (fun M I _ h => cX _ M I h) fun _ w2 _ H2 => ?_
  refine call_rule H2 (fun M I _ h => cY _ M I h) fun _ w3 _ H3 => ?_
  refine alloc_as tok H3 (bigC [0, 0, 0, 0, 0, 0, 0, 0]) rfl rfl rfl fun px w4 H4 => ?_
  refine alloc_as tok H4 (bigC [0, 0, 0, 0, 0, 0, 0, 0]) rfl rfl rfl fun py w5 H5 => ?_
  refine store_as tok H5 (bigC XA) rfl (bigHs lX) (bigHl lX rfl) (bigH1 lX) (bigHc lX rfl) fun w6 H6 => ?_
  refine store_as tok H6 (bigC YA) rfl (bigHs lY) (bigHl lY rfl) (bigH1 lY) (bigHc lY rfl) fun w7 H7 => ?_
  refine alloc_as tok H7 (wC [0, 0, 0, 0, 0, 0, 0, 0, 0]) rfl rfl rfl fun ps w8 H8 => ?_
  have H8 : Hp ⟨w, M, I⟩ [blk ps (wC [0, 0, 0, 0, 0, 0, 0, 0, 0]) 285, blk px (bigC XA) 203, blk py (bigC YA) 203, blk r (bigC [0, 0, 0, 0, 0, 0, 0, 0]) 203] [] w8 := Hp.keep H8
  refine loop_rule tok (σ := Nat × List Nat) 2305843009213432576 (fun s => [(8, .int .i64 (s.1 : Int))]) (fun s w' => s.1 ≤ 4 ∧ MulI XA YA s.1 0 s.2 ∧ Hp ⟨w, M, I⟩ [blk ps (wC s.2) 285, blk px (bigC XA) 203, blk py (bigC YA) 203, blk r (bigC [0, 0, 0, 0, 0, 0, 0, 0]) 203] [] w') (fun s => 4 - s.1) (0, [0, 0, 0, 0, 0, 0, 0, 0, 0]) rfl rfl ⟨rfl, trivial⟩ ⟨Nat.zero_le _, MulI.start XA YA, H8⟩ ?_
  intro s j w9 hW
  have h4 := hW.1
  have hI := hW.2.1
  have H9 := hW.2.2
  refine brd (fun q => ?_) (fun q => ?_)
  · have q : (s.1 : Int) < 4 := q
    have q' : s.1 < 4 := by omega
    have ew : IntKind.i64.wrap ((s.1 : Int) + 1) = ((s.1 + 1 : Nat) : Int) := w64 (by omega) (by omega)
    refine Exists.elim (gX s.1 q') fun xi hxi => ?_
    refine loop_rule tok (σ := Nat × List Nat) 2305843009209500160 (fun z => [(9, .int .i64 (z.1 : Int))]) (fun z w' => z.1 ≤ 4 ∧ MulI XA YA s.1 z.1 z.2 ∧ Hp ⟨w, M, I⟩ [blk ps (wC z.2) 285, blk px (bigC XA) 203, blk py (bigC YA) 203, blk r (bigC [0, 0, 0, 0, 0, 0, 0, 0]) 203] [] w') (fun z => 4 - z.1) (0, s.2) rfl rfl ⟨rfl, trivial⟩ ⟨Nat.zero_le _, hI, H9⟩ ?_
    intro z j2 wa hZ
    have z4 := hZ.1
    have zI := hZ.2.1
    have Ha := hZ.2.2
    refine brd (fun qz => ?_) (fun qz => ?_)
    · have qz : (z.1 : Int) < 4 := qz
      have qz' : z.1 < 4 := by omega
      have ewz : IntKind.i64.wrap ((z.1 : Int) + 1) = ((z.1 + 1 : Nat) : Int) := w64 (by omega) (by omega)
      have es : IntKind.i64.wrap ((s.1 : Int) + (z.1 : Int)) = ((s.1 + z.1 : Nat) : Int) := w64 (by omega) (by omega)
      have es1 : IntKind.i64.wrap (IntKind.i64.wrap ((s.1 : Int) + (z.1 : Int)) + 1) = ((s.1 + z.1 + 1 : Nat) : Int) := by rw [es]; exact w64 (by omega) (by omega)
      refine Exists.elim (gY z.1 qz') fun yj hyj => ?_
      refine Exists.elim (get8 zI.len (show s.1 + z.1 < 9 by omega)) fun va hva => ?_
      have l1 : (z.2.set (s.1 + z.1) (va + xi * yj % 65536)).length = 9 := by rw [List.length_set]; exact zI.len
      refine Exists.elim (get8 l1 (show s.1 + z.1 + 1 < 9 by omega)) fun vb hvb => ?_
      have hvb0 : z.2[s.1 + z.1 + 1]? = some vb := by rw [List.getElem?_set_ne (by omega)] at hvb; exact hvb
      have bva := mul16 h4 z4 (zI.b va (List.mem_of_getElem? hva))
      have bvb := mul16 h4 z4 (zI.b vb (List.mem_of_getElem? hvb0))
      have em := mulw hxi.2 hyj.2
      have er : (IntKind.u64.wrap (IntKind.u64.wrap (xi : Int) * IntKind.u64.wrap (yj : Int))).tmod 65536 = ((xi * yj % 65536 : Nat) : Int) := by rw [em]; rfl
      have hdl : xi * yj / 65536 < 65536 := dvb (Nat.mul_le_mul (Nat.le_of_lt_succ hxi.2) (Nat.le_of_lt_succ hyj.2))
      have ed : IntKind.u64.wrap ((IntKind.u64.wrap (IntKind.u64.wrap (xi : Int) * IntKind.u64.wrap (yj : Int))).tdiv 65536) = ((xi * yj / 65536 : Nat) : Int) := by rw [em]; exact u64n (Nat.lt_trans hdl (by decide))
      have ea : IntKind.u64.wrap ((va : Int) + ((xi * yj % 65536 : Nat) : Int)) = ((va + xi * yj % 65536 : Nat) : Int) := addw bva (Nat.mod_lt _ (by decide))
      have eb : IntKind.u64.wrap ((vb : Int) + ((xi * yj / 65536 : Nat) : Int)) = ((vb + xi * yj / 65536 : Nat) : Int) := addw bvb hdl
      refine draw_rule (A := [blk ps (wC z.2) 285]) tok tdr Ha [0, 1, 2, 3, 4, 5, 6, 7, 8, 9, 10, 11, 12, 13, 14, 15, 16, 17] [0, 0, 3, 7, 15, 0, 32, 96, 224, 0, 512, 1536, 3584, 8160, 16352, 32767, 65535, 131071] rfl ?_
      refine pass_rule _ (fun w h => arrIx_rule tok (s.1 + z.1) es rfl rfl (sz := 1) rfl (show s.1 + z.1 < 9 by omega) ⟨rfl, rfl⟩) ?_
      refine pass_last _ rfl (fun X w h => load_rule tok h (v := .int .u64 (va : Int)) (ldAtW hva) ⟨rfl, rfl⟩) ?_
      refine pass_rule _ (fun w h => arrIx_rule tok s.1 rfl rfl rfl (sz := 1) rfl (show s.1 < 8 by omega) ⟨rfl, rfl⟩) ?_
      refine pass_rule _ (fun w h => load_rule tok h (v := .int .u32 (xi : Int)) (ldAt hxi.1) ⟨rfl, rfl⟩) ?_
      refine pass_rule _ (fun w h => arrIx_rule tok z.1 rfl rfl rfl (sz := 1) rfl (show z.1 < 8 by omega) ⟨rfl, rfl⟩) ?_
      refine pass_rule _ (fun w h => load_rule tok h (v := .int .u32 (yj : Int)) (ldAt hyj.1) ⟨rfl, rfl⟩) ?_
      refine pass_rule _ (fun w h => rem_as ((xi * yj % 65536 : Nat) : Int) (by decide) er ⟨rfl, rfl⟩) ?_
      refine pass_rule _ (fun w h => arrIx_rule tok (s.1 + z.1) es rfl rfl (sz := 1) rfl (show s.1 + z.1 < 9 by omega) ⟨rfl, rfl⟩) ?_
      refine imp_rule (fun X wx h => store_as tok h (wC (z.2.set (s.1 + z.1) (va + xi * yj % 65536))) rfl rfl (bleW zI.len (by omega)) rfl (stAtW _ _ _ ea) fun w1 H1 => imp_done H1 ?_)
      refine done_rule fun wb Hb => ?_
      have Hb : Hp ⟨w, M, I⟩ [blk ps (wC (z.2.set (s.1 + z.1) (va + xi * yj % 65536))) 285, blk px (bigC XA) 203, blk py (bigC YA) 203, blk r (bigC [0, 0, 0, 0, 0, 0, 0, 0]) 203] [] wb := Hp.keep Hb
      refine draw_rule (A := [blk ps (wC (z.2.set (s.1 + z.1) (va + xi * yj % 65536))) 285]) tok tdr Hb [0, 1, 2, 3, 4, 5, 6, 7, 8, 9, 10, 11, 12, 13, 14, 15, 16, 17, 18] [0, 0, 3, 7, 15, 31, 0, 64, 192, 448, 0, 1024, 3072, 7168, 16320, 32704, 65535, 131071, 262143] rfl ?_
      refine pass_rule _ (fun w h => arrIx_rule tok (s.1 + z.1 + 1) es1 rfl rfl (sz := 1) rfl (show s.1 + z.1 + 1 < 9 by omega) ⟨rfl, rfl⟩) ?_
      refine pass_last _ rfl (fun X w h => load_rule tok h (v := .int .u64 (vb : Int)) (ldAtW hvb) ⟨rfl, rfl⟩) ?_
      refine pass_rule _ (fun w h => arrIx_rule tok s.1 rfl rfl rfl (sz := 1) rfl (show s.1 < 8 by omega) ⟨rfl, rfl⟩) ?_
      refine pass_rule _ (fun w h => load_rule tok h (v := .int .u32 (xi : Int)) (ldAt hxi.1) ⟨rfl, rfl⟩) ?_
      refine pass_rule _ (fun w h => arrIx_rule tok z.1 rfl rfl rfl (sz := 1) rfl (show z.1 < 8 by omega) ⟨rfl, rfl⟩) ?_
      refine pass_rule _ (fun w h => load_rule tok h (v := .int .u32 (yj : Int)) (ldAt hyj.1) ⟨rfl, rfl⟩) ?_
      refine pass_rule _ (fun w h => quo_as ((xi * yj / 65536 : Nat) : Int) (by decide) ed ⟨rfl, rfl⟩) ?_
      refine pass_rule _ (fun w h => arrIx_rule tok (s.1 + z.1 + 1) es1 rfl rfl (sz := 1) rfl (show s.1 + z.1 + 1 < 9 by omega) ⟨rfl, rfl⟩) ?_
      refine imp_rule (fun X wx h => store_as tok h (wC ((z.2.set (s.1 + z.1) (va + xi * yj % 65536)).set (s.1 + z.1 + 1) (vb + xi * yj / 65536))) rfl rfl (bleW l1 (by omega)) rfl (stAtW _ _ _ eb) fun w1 H1 => imp_done H1 ?_)
      refine done_rule fun wc Hc => ?_
      exact Exists.intro (z.1 + 1, (z.2.set (s.1 + z.1) (va + xi * yj % 65536)).set (s.1 + z.1 + 1) (vb + xi * yj / 65536)) (And.intro ⟨congrArg (Value.int .i64) ewz, trivial⟩ (And.intro (by show 4 - (z.1 + 1) < 4 - z.1; omega) ⟨by show z.1 + 1 ≤ 4; omega, zI.step q' qz' hxi.1 hyj.1 hxi.2 hyj.2 hva hvb, Hp.keep Hc⟩))
    · have qz : ¬ (z.1 : Int) < 4 := qz
      have e4 : z.1 = 4 := by omega
      have zI' : MulI XA YA s.1 4 z.2 := e4 ▸ zI
      exact Exists.intro (s.1 + 1, z.2) (And.intro ⟨congrArg (Value.int .i64) ew, trivial⟩ (And.intro (by show 4 - (s.1 + 1) < 4 - s.1; omega) ⟨by show s.1 + 1 ≤ 4; omega, zI'.next (by omega), Ha⟩))
  · have q : ¬ (s.1 : Int) < 4 := q
    have e4 : s.1 = 4 := by omega
    have hI4 : MulI XA YA 4 0 s.2 := e4 ▸ hI
    have vS : val s.2 = a * b := by
      obtain ⟨x4, hx4⟩ := get8 lX (show 4 < 8 by decide)
      rw [hI4.v x4 hx4, vX, vY, List.take_zero, Pl.val, Nat.mul_zero, Nat.mul_zero, Nat.add_zero]
    refine alloc_as tok H9 (bigC [0, 0, 0, 0, 0, 0, 0, 0]) rfl rfl rfl fun po wa Ha => ?_
    have Ha : Hp ⟨w, M, I⟩ [blk po (bigC [0, 0, 0, 0, 0, 0, 0, 0]) 203, blk ps (wC s.2) 285, blk r (bigC [0, 0, 0, 0, 0, 0, 0, 0]) 203] [] wa := Hp.keep Ha
    refine loop_rule tok (σ := Nat × List Nat × Nat) 151113421608819433158656 (fun z => [(61, .int .i64 (z.1 : Int)), (11, .int .u64 (z.2.2 : Int))]) (fun z w' => z.1 ≤ 8 ∧ CarI s.2 z.1 z.2.1 z.2.2 ∧ Hp ⟨w, M, I⟩ [blk po (bigC z.2.1) 203, blk ps (wC s.2) 285, blk r (bigC [0, 0, 0, 0, 0, 0, 0, 0]) 203] [] w') (fun z => 8 - z.1) (0, [0, 0, 0, 0, 0, 0, 0, 0], 0) rfl rfl ⟨rfl, rfl, trivial⟩ ⟨Nat.zero_le _, CarI.start s.2, Ha⟩ ?_
    intro z j2 wb hZ
    have z8 := hZ.1
    have zC := hZ.2.1
    have Hb := hZ.2.2
    refine brd (fun qz => ?_) (fun qz => ?_)
    · have qz : (z.1 : Int) < 8 := qz
      have qz' : z.1 < 8 := by omega
      have ewz : IntKind.i64.wrap ((z.1 : Int) + 1) = ((z.1 + 1 : Nat) : Int) := w64 (by omega) (by omega)
      refine Exists.elim (get8 hI4.len (show z.1 < 9 by omega)) fun e he => ?_
      have be : e ≤ 16 * 65536 := hI4.b e (List.mem_of_getElem? he)
      have bo := zC.o
      have en : IntKind.u64.wrap ((e : Int) + (z.2.2 : Int)) = ((e + z.2.2 : Nat) : Int) := addw (by omega) (by omega)
      have er : (IntKind.u64.wrap ((e : Int) + (z.2.2 : Int))).tmod 65536 = (((e + z.2.2) % 65536 : Nat) : Int) := by rw [en]; rfl
      have ed : IntKind.u64.wrap ((IntKind.u64.wrap ((e : Int) + (z.2.2 : Int))).tdiv 65536) = (((e + z.2.2) / 65536 : Nat) : Int) := by rw [en]; exact u64n (Nat.lt_of_le_of_lt (Nat.div_le_self _ _) (by omega))
      refine arrIx_rule tok z.1 rfl rfl rfl (sz := 1) rfl (show z.1 < 9 by omega) ?_
      refine load_rule tok Hb (v := .int .u64 (e : Int)) (ldAtW he) ?_
      refine rem_as (((e + z.2.2) % 65536 : Nat) : Int) (by decide) er ?_
      refine quo_as (((e + z.2.2) / 65536 : Nat) : Int) (by decide) ed ?_
      refine arrIx_rule tok z.1 rfl rfl rfl (sz := 1) rfl (show z.1 < 8 by omega) ?_
      refine store_as tok Hb (bigC (z.2.1.set z.1 ((e + z.2.2) % 65536))) rfl rfl (bleB zC.len (by omega)) rfl (stAt _ _ _ (u32d _)) fun wc Hc => ?_
      exact Exists.intro (z.1 + 1, z.2.1.set z.1 ((e + z.2.2) % 65536), (e + z.2.2) / 65536) (And.intro ⟨congrArg (Value.int .i64) ewz, rfl, trivial⟩ (And.intro (by show 8 - (z.1 + 1) < 8 - z.1; omega) ⟨by show z.1 + 1 ≤ 8; omega, zC.step qz' he be, Hc⟩))
    · have qz : ¬ (z.1 : Int) < 8 := qz
      have e8 : z.1 = 8 := by omega
      have zC8 : CarI s.2 8 z.2.1 z.2.2 := e8 ▸ zC
      have hv := mul_end hI4.len vS zC8 ha hb
      refine load_rule tok Hb (v := bigV z.2.1) (ldBig zC.len) ?_
      refine store_as tok Hb (bigC z.2.1) rfl (bigHs zC.len) (bigHl zC.len rfl) (bigH1 zC.len) (bigHc zC.len rfl) fun wd Hd => ?_
      refine Exists.intro ⟨r, 0, none⟩ (Exists.intro (bigV z.2.1) (And.intro rfl (And.intro (Hp.ld (T := tb) tok Hd (ldBig zC.len)) ?_)))
      exact Exists.intro z.2.1 (And.intro rfl (And.intro ⟨zC.len, zC.lt, hv⟩ (Hp.keep Hd)))
end Go.Proofs.YtjlfjjgjghdokaaGreatDoor
