/- The rows of this seat that list errors.errorType too: the listed variables, worlds that meet them. -/
import Derived.Test.YtgbmambkgcjhfaaGreatDoorLay
set_option linter.unusedVariables false
namespace Go.Proofs.YtgbmambkgcjhfaaGreatDoor
open Go.ChangeShapes Go.WideShapes Go.ChangeAt Go.RowKit Go.Joins Go.Wk
@[reducible] noncomputable def laid8 : List (String × DataW Unit) := [("math/bits.deBruijn32tab", Rows.laid_math_bits_deBruijn32tab), ("math/bits.deBruijn64tab", Rows.laid_math_bits_deBruijn64tab), ("internal/strconv.uint64pow10", Rows.laid_internal_strconv_uint64pow10), ("unicode/utf8.acceptRanges", Rows.laid_unicode_utf8_acceptRanges), ("errors.errorType", Rows.laid_errors_errorType), ("strconv.ErrRange", Rows.laid_strconv_ErrRange), ("strconv.ErrSyntax", Rows.laid_strconv_ErrSyntax), ("unicode/utf8.first", Rows.laid_unicode_utf8_first)]
theorem plain8 : (laid8.filter fun x => x.2.handleName?.isNone) = laid7 := by kernel_rfl
theorem hand8 : (laid8.filter fun x => x.2.handleName?.isSome) = [("errors.errorType", Rows.laid_errors_errorType)] := by kernel_rfl
theorem both8 {W : World} (h : laidMetH Tryz.prog laid8 W) : laidMet Tryz.prog laid7 W ∧ handlesMet Tryz.prog [("errors.errorType", Rows.laid_errors_errorType)] W := by
  unfold laidMetH at h
  rw [hand8] at h
  simp only at h
  rw [plain8] at h
  exact h
theorem errVar : Tryz.prog.globalNamed "errors.errorType" = some 1 := by kernel_rfl
theorem rtypeNo : (Tryz.prog.cutTypes.find? (·.1 == "internal/reflectlite.rtype")).map (·.2) = some 233 := by kernel_rfl
theorem typesNo : Tryz.prog.types.size = 323 := by kernel_rfl
theorem errRow : ((List.range 323).filter fun t => Tryz.prog.rowNamed t [101, 114, 114, 111, 114]) = [51] := by kernel_rfl
theorem handle8 {W : World} (h : laidMetH Tryz.prog laid8 W) : W.cell? ⟨1, 0, none⟩ = some errTy := by
  obtain ⟨name, u, ty, e1, e2, e3, e4, e5⟩ := (both8 h).2 _ (List.mem_singleton.2 rfl)
  have en : name = [101, 114, 114, 111, 114] := (Option.some.inj e1).symm
  subst en
  obtain rfl := Option.some.inj (rtypeNo.symm.trans e2)
  have hm : ty ∈ (List.range 323).filter fun t => Tryz.prog.rowNamed t [101, 114, 114, 111, 114] := List.mem_filter.2 ⟨List.mem_range.2 (by rw [← typesNo]; exact e3), e4⟩
  rw [errRow] at hm
  obtain rfl := List.mem_singleton.1 hm
  have hh : typeHandle Tryz.prog 51 = .pointer (some ⟨11, 51, none⟩) := by kernel_rfl
  rw [hh] at e5
  simpa using World.var?_cell errVar e5 0
@[reducible] def libs8 : List Fact := [Glob 1 errTy, LibF]
theorem hpLaid8 {W : World} (h : laidMetH Tryz.prog laid8 W) (hs : W.ShapedOpen Tryz.prog) (F : List Fact) (hF : All F W (oldB W)) : Hp ⟨W, fun _ => False, oldB W⟩ [] (F ++ libs8) W := hp_old W _ fun f hf => by
  rcases List.mem_append.1 hf with h1 | h1
  · exact hF f h1
  · rcases List.mem_cons.1 h1 with h1 | h1
    · rw [h1]; exact ⟨(cell_lt (handle8 h)).1, handle8 h⟩
    · rw [List.mem_singleton.1 h1]; exact libF_of_laid (both8 h).1 hs
noncomputable def base8 (os : Os) : World :=
  let w0 := World.holding Tryz.prog os ⟨#[], #[], []⟩
  { w0 with heap := w0.heap.modify 1 fun
      | .cells _ t frozen => .cells #[errTy] t frozen
      | o => o }
noncomputable def world8 (os : Os) : World := (base8 os).layVars Tryz.prog laid7
theorem world8_os (os : Os) : (world8 os).os = os := World.layVars_os _ _ _
set_option maxRecDepth 100000 in
theorem shaped8 (os : Os) (args : Array Value) : ((world8 os).forCall (fun _ _ => 0) ⟨#[], args, []⟩).Shaped Tryz.prog := by
  have h : (world8 os).Shaped Tryz.prog := World.shaped_of_ZipB (by kernel_rfl) (by kernel_rfl)
  exact h
theorem fits8 (os : Os) : (base8 os).layFits Tryz.prog laid7 [] = true := by kernel_rfl
theorem ifaces8 (os : Os) : (base8 os).layIfaces Tryz.prog laid7 (world8 os) = true := by kernel_rfl
theorem laidMet8 (os : Os) : laidMet Tryz.prog laid7 (world8 os) := by
  have e1 : (laid7.filter fun x => (laid7.map (·.1)).contains x.1) = laid7 := List.filter_eq_self.2 fun x hx => List.contains_iff_mem.2 (List.mem_map.2 ⟨x, hx, rfl⟩)
  have e2 : (laid7.filter fun x => !(laid7.map (·.1)).contains x.1) = [] := List.filter_eq_nil_iff.2 fun x hx => by rw [List.contains_iff_mem.2 (List.mem_map.2 ⟨x, hx, rfl⟩)]; simp
  exact laidMet_layVars (w0 := base8 os) (laid7.map (·.1)) [] (by rw [e1]; rfl) (by rw [e1]; exact fits8 os) (by rw [e1]; exact ifaces8 os) (by rw [e2]; exact LaidIn.none)
set_option maxRecDepth 100000 in
theorem met8 (os : Os) (args : Array Value) : laidMetH Tryz.prog laid8 ((world8 os).forCall (fun _ _ => 0) ⟨#[], args, []⟩).memory := by
  have hd : laidMet Tryz.prog laid7 ((world8 os).forCall (fun _ _ => 0) ⟨#[], args, []⟩).memory := (laidMet8 os).of_heap (by simp [World.memory, World.forCall, Input.heap])
  refine laidMetH_of_parts ?_ ?_
  · rw [plain8]; exact hd
  · rw [hand8]; kernel_rfl
section
variable {H : Type} {enc : TypeId × Value → H} {w : World} {base : Nat} {spare : Nat → Bool} {held : Bool}
theorem trod_byte (n : Nat) (cs : List Value) (x : DataW H × List MemPlace) (h : DataW.trod enc Tryz.prog w base spare held n 5 cs = some x) : ∃ (y : Nat) (p : Unit), byteR.ok y p ∧ cs = byteR.cells y p ∧ All (byteR.facts y p) w (oldB w) := by
  obtain ⟨a0, e0, _, w0⟩ := DataW.trod_int Tryz.underlying5 h
  have hb : 0 ≤ a0 ∧ a0 ≤ 255 := inK_of_wf w0
  refine ⟨a0.toNat, (), by show a0.toNat < 256; omega, ?_, fun f hf => by cases hf⟩
  rw [e0]
  show [Value.int .u8 a0] = [.int .u8 ((a0.toNat : Nat) : Int)]
  rw [show ((a0.toNat : Nat) : Int) = a0 by omega]
set_option maxRecDepth 100000 in
theorem open_bytes {b0 : Nat} {v : Value} {d : DataW H} {p : List MemPlace} (hv : Value.okWide Tryz.prog w .any b0 43 v) (h : DataW.Trod enc Tryz.prog w base spare held 43 v d p) : ∃ A n c ls, v = .slice A n c ∧ (Sl byteR (.slice A n c) ls).holds w (oldB w) :=
  sl_of_trod Tryz.underlying43 cell_5 (by decide) trod_byte h (not_agg Tryz.underlying43 hv)
end
end Go.Proofs.YtgbmambkgcjhfaaGreatDoor
