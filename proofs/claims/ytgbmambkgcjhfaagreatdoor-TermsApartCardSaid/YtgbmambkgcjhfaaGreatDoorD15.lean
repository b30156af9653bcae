/- What the library's variables hold; numbers and strings of the library: contracts. -/
import Derived.Test.YtgbmambkgcjhfaaGreatDoorD14
import Derived.Test.YtgbmambkgcjhfaaGreatDoorAsE
set_option linter.unusedVariables false
namespace Go.Proofs.YtgbmambkgcjhfaaGreatDoor
open Go Go.Proofs Go.Wk Go.RowKit
theorem gPow : Tryz.prog.globalNamed "internal/strconv.uint64pow10" = some 2 := by kernel_rfl
/-- The library's variables that the code reads. -/
structure LibAt (w : World) (I : BS) (m : Int) (pe pr : Option Addr) : Prop where
  ml : (Glob 4 (.int .i64 m)).holds w I
  es : (Glob 3 (.iface 276 (.pointer pe))).holds w I
  er : (Glob 0 (.iface 276 (.pointer pr))).holds w I
  tab : (TabF Tryz.prog 2 "internal/strconv.uint64pow10" .u64 Lib.pow10Tab gPow).holds w I
def LibF : Fact where
  holds w I := ∃ m pe pr, LibAt w I m pe pr
  mono := fun ⟨m, pe, pr, h⟩ hI hw => ⟨m, pe, pr, Fact.mono _ h.ml hI hw, Fact.mono _ h.es hI hw, Fact.mono _ h.er hI hw, Fact.mono _ h.tab hI hw⟩
section
variable {B : Base} {S : List Asn} {F : List Fact} {w : World}
theorem hpLib (H : Hp B S F w) [hp : InF F LibF] : ∃ m pe pr I, LibAt w I m pe pr := by
  obtain ⟨I, m, pe, pr, h⟩ := H.fact (f := LibF)
  exact ⟨m, pe, pr, I, h⟩
/-- The error of numbers that are too large. -/
theorem rangeGlob (H : Hp B S F w) [hp : InF F LibF] : ∃ pr, Hp B S (Glob 0 (.iface 276 (.pointer pr)) :: F) w := by
  obtain ⟨h1, h2, h3, h4, h5, I, fp, hs, ha, r⟩ := H
  obtain ⟨m, pe, pr, h⟩ := ha _ hp.mem
  exact ⟨pr, h1, h2, h3, h4, h5, I, fp, hs, fun f hf => by
    rcases List.mem_cons.1 hf with rfl | hf
    · exact h.er
    · exact ha f hf, r⟩
theorem ctrLib {g : Nat} {args : List Value} {M I : BS} {α : Type} {V : α → Value} {φ : α → Prop} (H : Hp ⟨w, M, I⟩ S F w) (hc : ∀ aa w, (callFunc g aa).run Tryz.prog w = .ok (.enter g aa) w)
    (h : Calls Tryz.prog g args.toArray w fun e w' => ∃ a, e = .returned (V a) ∧ φ a ∧ Below w.heap.size w w') : Ctr Tryz.prog g args w M I V φ (fun _ => []) (fun _ => []) :=
  (Ctr.of_below H hc h).imp fun a w' hφ hh => ⟨a, rfl, hφ, (Hp.dropAll hh).facts fun I _ f hf => by cases hf⟩
end
def strOf (l : List UInt8) : ByteArray := ⟨l.toArray⟩
theorem itoa (n : Int) (h : inK .i64 n) (w : World) (M I : BS) (H : Hp ⟨w, M, I⟩ [] [LibF] w) :
    Ctr Tryz.prog 73 [.int .i64 n] w M I (fun _ : Unit => .string (strOf (Lib.itoa n))) (fun _ => True) (fun _ => []) (fun _ => []) := by
  obtain ⟨m, pe, pr, I2, hl⟩ := hpLib H
  refine ctrLib H Tryz.call73 ((Tryz.strconv_Itoa n h.1 h.2 w hl.tab.2).mono fun e w' hh => ?_)
  obtain ⟨h1, k, os, h2⟩ := hh
  exact ⟨(), h1, trivial, by rw [h2]; exact below_grow w k os⟩
theorem trimPrefix (s p : ByteArray) : CB 53 [.string s, .string p] (.string (strOf (Lib.trimPrefix s.data.toList p.data.toList))) := fun w M I H =>
  ctrLib H Tryz.call53 ((Tryz.strings_TrimPrefix s p w).mono fun e w' h => ⟨(), h.1, trivial, by rw [h.2]; exact Below.refl _ _⟩)
theorem cutS (s sep : ByteArray) (hs : s.size < 4294967281) (w : World) (M I : BS) (H : Hp ⟨w, M, I⟩ [] [LibF] w) :
    Ctr Tryz.prog 106 [.string s, .string sep] w M I (fun _ : Unit => .tuple #[.string (strOf (Lib.cut s.data.toList sep.data.toList).1), .string (strOf (Lib.cut s.data.toList sep.data.toList).2.1), .bool (Lib.cut s.data.toList sep.data.toList).2.2]) (fun _ => True) (fun _ => []) (fun _ => []) := by
  obtain ⟨m, pe, pr, I2, hl⟩ := hpLib H
  refine ctrLib H Tryz.call106 ((Tryz.strings_Cut s sep m w hs hl.ml.2).mono fun e w' hh => ?_)
  obtain ⟨h1, n, h2⟩ := hh
  exact ⟨(), h1, trivial, by rw [h2]; exact below_drew w n⟩
@[reducible] def strR : Rp ByteArray := Go.Wk.strR
theorem splitS (s sep : ByteArray) (hs : s.size < 4294967281) (h1 : 1 ≤ sep.size) (w : World) (M I : BS) (H : Hp ⟨w, M, I⟩ [] [LibF] w) :
    Ctr Tryz.prog 51 [.string s, .string sep] w M I (fun g : Nat => .slice (some ⟨g, 0, none⟩) (Lib.countB s sep + 1) (Lib.countB s sep + 1)) (fun _ => True) (fun g => [blk g ((Lib.splitB sep 0 (Lib.countB s sep) s).map Value.string) 9]) (fun _ => []) := by
  obtain ⟨m, pe, pr, I2, hl⟩ := hpLib H
  refine Ctr.of_calls Tryz.call51 ((Tryz.strings_Split s sep m w hs hl.ml.2 h1).mono fun e w' hh => ?_)
  obtain ⟨h2, h3⟩ := hh
  refine ⟨w.heap.size, h2, trivial, ?_⟩
  have := (Hp.alloc H (.cells ((Lib.splitB sep 0 (Lib.countB s sep) s).map Value.string).toArray 9)).facts (F' := []) fun I _ f hf => by cases hf
  rw [h3]
  exact this
theorem belowBytes (w : World) (t : ByteArray) : Below w.heap.size w (Lib.bytesWorld w 5 t) := by
  refine ⟨rfl, rfl, rfl, ?_, fun k hk => Lib.bytesWorld_at_old w 5 t k hk⟩
  rw [Lib.bytesWorld_size]; omega
/-- A parsed number, and whether it was one. -/
theorem atoi (s : ByteArray) (hs : s.size ≤ 281474976710656) (w : World) (M I : BS) (H : Hp ⟨w, M, I⟩ [] [LibF] w) :
    Ctr Tryz.prog 89 [.string s] w M I (fun a : Int × Option Nat => .tuple #[.int .i64 a.1, match a.2 with
      | none => .nilIface
      | some N => .iface 226 (.pointer (some ⟨N, 0, none⟩))]) (fun a => match Lib.atoiAll s.data.toList with
      | .ok v => a = (v, none)
      | .range => a.1 = Lib.atoiSat s.data.toList ∧ a.2.isSome = true
      | _ => a.1 = 0 ∧ a.2.isSome = true) (fun _ => []) (fun _ => []) := by
  obtain ⟨m, pe, pr, I2, hl⟩ := hpLib H
  have hbelow := fun t => belowBytes w t
  cases h : Lib.atoiAll s.data.toList with
  | ok v =>
    refine ctrLib H Tryz.call89 ((Tryz.strconv_Atoi_ok s (by omega) v h w).mono fun e w' hh => ?_)
    exact ⟨(v, none), hh.1, rfl, by rcases hh.2 with e | ⟨t, e⟩ <;> rw [e]; exact Below.refl _ _; exact hbelow t⟩
  | range =>
    refine ctrLib H Tryz.call89 ((Tryz.strconv_Atoi_range s hs h (.iface 276 (.pointer pr)) w hl.er.2 (.inr ⟨276, .pointer pr, rfl⟩)).mono fun e w' hh => ?_)
    obtain ⟨N, h1, h2, h3, h4⟩ := hh
    exact ⟨(Lib.atoiSat s.data.toList, some N), h1, ⟨rfl, rfl⟩, h4⟩
  | _ =>
    refine ctrLib H Tryz.call89 ((Tryz.strconv_Atoi_syntax s hs h (.iface 276 (.pointer pe)) w hl.es.2 (.inr ⟨276, .pointer pe, rfl⟩)).mono fun e w' hh => ?_)
    obtain ⟨N, h1, h2, h3, h4⟩ := hh
    exact ⟨(0, some N), h1, ⟨rfl, rfl⟩, h4⟩
theorem parseU32 (s : ByteArray) (hs : s.size ≤ 281474976710656) (w : World) (M I : BS) (H : Hp ⟨w, M, I⟩ [] [LibF] w) :
    Ctr Tryz.prog 52 [.string s, .int .i64 10, .int .i64 32] w M I (fun a : Nat × Option Nat => .tuple #[.int .u64 (a.1 : Int), match a.2 with
      | none => .nilIface
      | some N => .iface 226 (.pointer (some ⟨N, 0, none⟩))]) (fun a => match Lib.parseUintB 32 s.data.toList with
      | .ok u => a = (u, none)
      | .range => a.1 = 4294967295 ∧ a.2.isSome = true
      | _ => a.1 = 0 ∧ a.2.isSome = true) (fun _ => []) (fun _ => []) := by
  obtain ⟨m, pe, pr, I2, hl⟩ := hpLib H
  cases h : Lib.parseUintB 32 s.data.toList with
  | ok v =>
    refine ctrLib H Tryz.call52 ((Tryz.strconv_ParseUint_10_at32_ok s (by omega) v h w).mono fun e w' hh => ?_)
    exact ⟨(v, none), hh.1, rfl, by rcases hh.2 with e | e <;> rw [e]; exact Below.refl _ _; exact belowBytes w s⟩
  | range =>
    refine ctrLib H Tryz.call52 ((Tryz.strconv_ParseUint_10_at32_range s hs h (.iface 276 (.pointer pr)) w hl.er.2 (.inr ⟨276, .pointer pr, rfl⟩)).mono fun e w' hh => ?_)
    obtain ⟨N, h1, h2, h3, h4⟩ := hh
    exact ⟨(4294967295, some N), h1, ⟨rfl, rfl⟩, h4⟩
  | _ =>
    refine ctrLib H Tryz.call52 ((Tryz.strconv_ParseUint_10_at32_syntax s hs h (.iface 276 (.pointer pe)) w hl.es.2 (.inr ⟨276, .pointer pe, rfl⟩)).mono fun e w' hh => ?_)
    obtain ⟨N, h1, h2, h3, h4⟩ := hh
    exact ⟨(0, some N), h1, ⟨rfl, rfl⟩, h4⟩
theorem parseI64ok (s : ByteArray) (hs : s.size ≤ 281474976710656) (v : Int) (h : Lib.parseIntB 64 s.data.toList = .ok v) (w : World) (M I : BS) (H : Hp ⟨w, M, I⟩ [] [LibF] w) :
    Ctr Tryz.prog 107 [.string s, .int .i64 10, .int .i64 64] w M I (fun _ : Unit => .tuple #[.int .i64 v, .nilIface]) (fun _ => True) (fun _ => []) (fun _ => []) :=
  ctrLib H Tryz.call107 ((Tryz.strconv_ParseInt_10_at64_ok s (by omega) v h w).mono fun e w' hh => ⟨(), hh.1, trivial, by rcases hh.2 with e | ⟨t, e⟩ <;> rw [e]; exact Below.refl _ _; exact belowBytes w t⟩)
/-- A block that is new. -/
theorem belowBlk {w w' : World} {M I : BS} {F : List Fact} (H : Hp ⟨w, M, I⟩ [] F w) (hb : Below w.heap.size w w') {N : Nat} (hN : w.heap.size ≤ N) {cs : List Value} {t : TypeId} (hc : w'.heap[N]? = some (.cells cs.toArray t (0, 0))) : Hp ⟨w, M, I⟩ [blk N cs t] F w' := by
  have hlt : N < w'.heap.size := by
    rcases Nat.lt_or_ge N w'.heap.size with h | h
    · exact h
    · rw [Array.getElem?_eq_none h] at hc; cases hc
  obtain ⟨h1, h2, h3, h4, h5, J, fp, hs, ha, r1, r2, r3, r4, r5⟩ := H
  have hJ : ∀ b, J b → b < w.heap.size := r3
  exact ⟨hb.os, hb.tape, hb.output, hb.size, fun b hlb _ => hb.block b hlb, J, (fun b => b = N), ⟨(fun b => b = N), (fun _ => False), ⟨fun b => Iff.rfl, hc⟩, fun b e hj => by have := hJ b hj; omega, fun b _ h => h, fun b => ⟨Or.inl, fun h => h.elim id False.elim⟩, fun b h => h⟩, fun f hf => f.mono (ha f hf) (fun _ h => h) fun b hj => hb.block b (hJ b hj), r1, r2, fun b hj => Nat.lt_of_lt_of_le (hJ b hj) hb.size, fun b e => .inr (by rw [e]; exact hN), fun b e hj => by have := hJ b hj; omega⟩
/-- A number's error in its block. -/
@[reducible] def neC (a b : ByteArray) (p : Option Addr) : List Value := [.string a, .string b, .iface 276 (.pointer p)]
theorem parseI64range (s : ByteArray) (hs : s.size ≤ 281474976710656) (h : Lib.parseIntB 64 s.data.toList = .range) (pr : Option Addr) (w : World) (M I : BS) (H : Hp ⟨w, M, I⟩ [] [Glob 0 (.iface 276 (.pointer pr)), LibF] w) :
    Ctr Tryz.prog 107 [.string s, .int .i64 10, .int .i64 64] w M I (fun a : Nat => .tuple #[.int .i64 (Lib.intSat 64 s.data.toList), .iface 226 (.pointer (some ⟨a, 0, none⟩))]) (fun _ => True) (fun a => [blk a (neC ⟨#[80, 97, 114, 115, 101, 73, 110, 116]⟩ s pr) 262]) (fun _ => [Glob 0 (.iface 276 (.pointer pr))]) := by
  obtain ⟨I3, hg⟩ := H.fact (f := Glob 0 (.iface 276 (.pointer pr)))
  refine Ctr.of_calls Tryz.call107 ((Tryz.strconv_ParseInt_10_at64_range s hs h (.iface 276 (.pointer pr)) w hg.2 (.inr ⟨276, .pointer pr, rfl⟩)).mono fun e w' hk => ?_)
  obtain ⟨N, k1, k2, k3, k4⟩ := hk
  exact ⟨N, k1, trivial, (belowBlk H k4 k2 k3).facts fun I ha f hf => ha f (by rw [List.mem_singleton.1 hf]; exact List.mem_cons_self)⟩
/-- strings.Join of a block of strings of one's own. -/
theorem joinS (g n c : Nat) (xs : List ByteArray) (hx : xs.length = n) (hn : n ≤ 1000) (hc : n ≤ c) (sep : ByteArray) (hlen : (Lib.join (xs.map (·.data.toList)) sep.data.toList).length ≤ 140737488355328) (w : World) (M I : BS) (H : Hp ⟨w, M, I⟩ [blk g (xs.map Value.string) 9] [] w) :
    Ctr Tryz.prog 50 [.slice (some ⟨g, 0, none⟩) n c, .string sep] w M I (fun _ : Unit => .string (strOf (Lib.join (xs.map (·.data.toList)) sep.data.toList))) (fun _ => True) (fun _ => [blk g (xs.map Value.string) 9]) (fun _ => []) := by
  subst hx
  obtain ⟨fa, ha⟩ := Hp.own (A := blk g (xs.map Value.string) 9) (hp := ⟨.refl _⟩) H
  have hb : g < w.heap.size := (blkO g _).lt ha ((ha.1 g).2 rfl)
  have hcells := blk_cells ha
  refine (Ctr.of_below H Tryz.call50 ((Tryz.strings_Join g 0 c xs sep w (fun j x hj => by
    have := hcells j (.string x) (by rw [List.getElem?_map, hj]; rfl)
    rwa [Nat.zero_add] at this ⊢) hb (by omega) hc hlen).mono fun e w' hh => ⟨(), hh.1, trivial, hh.2⟩))
end Go.Proofs.YtgbmambkgcjhfaaGreatDoor
