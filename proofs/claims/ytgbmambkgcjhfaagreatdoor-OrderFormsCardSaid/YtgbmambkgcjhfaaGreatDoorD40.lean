/- A string behind a row of bytes; bytes as a string; quill's texts: the walks. -/
import Derived.Test.YtgbmambkgcjhfaaGreatDoorD39
import Derived.Lib.AppendStr
set_option linter.unusedVariables false
namespace Go.Wk
open Go.Lib
section
variable {P : Program} {T : Tab} {K : Value → World → Prop} {w : World} {B : Base} {S S' S1 : List Asn} {F : List Fact}
theorem append_str_at {t u ty e : TypeId} {i : TypeInfo} (ht : P.underlying t = some (.slice e)) (hu : P.underlying u = some .string) (hi : P.info? e = some i) (hz : i.zero = some (.int .u8 0)) (hsize : i.size = 1) (hby : i.bytes = 1)
    {v : Value} {n : Nat} {xs : List Value} (hown : w.ownsRow 0 e 1 v n xs) (s : ByteArray) (hb : n + s.size ≤ 140737488355328) {v' : Value} {w' : World} (hr : (Builtin.append_ #[t, u] ty #[v, .string s]).run P w = .ok v' w') :
    v'.ownBlock = v.ownBlock ∨ v'.ownBlock = some w.heap.size := by
  have hxl : xs.length = n := by simpa using hown.1
  rcases hown.2 with ⟨rfl, rfl⟩ | ⟨g, cap, cur, rfl, hbg, hg, hnc, hcm, hcs, htake⟩
  · by_cases hm : s.size = 0
    · have hn : strCells s = [] := List.eq_nil_of_length_eq_zero (by rw [strCells_length]; exact hm)
      have hf := run_firstCells_string (P := P) w 1 s
      rw [hm] at hf
      have hq : (Builtin.append_ #[t, u] ty #[.slice none 0 0, .string s]).run P w = .ok (.slice none 0 0) w := by
        simp [Builtin.append_, run_underlying ht, run_underlying hu, sizeOf, typeInfo, hi, hsize, Builtin.lenOf, hm, hf]
      rw [hq] at hr
      injection hr with hr _
      subst hr
      exact .inl rfl
    · have hq := run_append_nil_string (P := P) w t u ty e i (.int .u8 0) ht hu hi hz s (by omega) (by omega) (by rw [hby]; omega)
      rw [hq] at hr
      injection hr with hr _
      subst hr
      exact .inr rfl
  · by_cases hroom : n + s.size ≤ cap
    · have hcs' : cur.size = cap := by simpa using hcs
      have hq := run_append_room_string (P := P) w t u ty e i ht hu hi hsize g n cap cur hg s hroom (by omega)
      rw [hq] at hr
      injection hr with hr _
      subst hr
      exact .inl rfl
    · have holds : ∀ j u, xs[j]? = some u → w.cell? ((⟨g, 0, none⟩ : Addr).add j) = some u := hown.cells (g := g) rfl
      have hq := run_append_grow_string (P := P) w t u ty e i (.int .u8 0) ht hu hi hz ⟨g, 0, none⟩ n cap xs (by rw [hsize]; simpa using hxl) holds s (by omega) (by omega) (by rw [hby]; exact growslice_fits (by omega) (by omega))
      rw [hq] at hr
      injection hr with hr _
      subst hr
      exact .inr rfl
/-- append(bytes, string...) at a row of one's own. -/
theorem append_str (hT : T.Ok P) (H : Hp B S F w) {e n : Nat} {v : Value} {cs : List Value} [h1 : TakeR S v e 1 n cs S1] {t u ty : TypeId} {it iu : TypeInfo} {de : TD} {cst : List Bool} (s : ByteArray) (ht : T t = some ⟨.slice e, it⟩) (hu : T u = some ⟨.string, iu⟩) (he : T e = some de)
    (hz : de.info.zero = some (.int .u8 0)) (hsz : de.info.size = 1) (hby : de.info.bytes = 1) (hb : n + s.size ≤ 140737488355328)
    (k : ∀ A c w', Hp B (row e 1 (.slice A (n + s.size) c) (n + s.size) (cs ++ strCells s) :: S1) F w' → K (.slice A (n + s.size) c) w') : BuiltinK P K w .append [t, u] ty cst [v, .string s] := by
  have H1 := H.perm h1.perm
  obtain ⟨fa, hfa⟩ := Hp.own (A := row e 1 v n cs) (S' := S1) (hp := ⟨.refl _⟩) H1
  obtain ⟨v', w', hr, hown, hg, _⟩ := run_append_own_string (P := P) w 0 t u ty e de.info (hT t _ ht).1 (hT u _ hu).1 (hT e _ he).2 hz hsz hby v n cs hfa.1 s (by unfold maxLen; omega) hb (Nat.zero_le _)
  have hat := append_str_at (hT t _ ht).1 (hT u _ hu).1 (hT e _ he).2 hz hsz hby hfa.1 s hb hr
  have H2 : Hp B (row e 1 v' (n + s.size) (cs ++ strCells s) :: S1) F w' := by
    refine Hp.step (A := row e 1 v n cs) (hp := ⟨.refl _⟩) H1 hg.os hg.tape hg.output hg.size fun fa ha => ⟨fun k hk hn => hg.block k hk fun e => hn ((ha.2 k).2 e.symm), fun k => v'.ownBlock = some k, ⟨hown, fun _ => Iff.rfl⟩, fun k hk => ?_⟩
    rcases hat with h | h
    · exact .inl ((ha.2 k).2 (h ▸ hk))
    · rw [h] at hk
      injection hk with hk
      subst hk
      exact .inr (Nat.le_refl _)
  obtain ⟨A, c', rfl, _⟩ := row_shape (w := w') (fp := fun k => v'.ownBlock = some k) ⟨hown, fun _ => Iff.rfl⟩
  refine BuiltinK.of (v := .slice A (n + s.size) c') (w' := w') ?_ (k A c' w' H2)
  simp only [builtin]
  rw [Sem.run_bind]
  have hr' : (Builtin.append_ [t, u].toArray ty [v, .string s].toArray).run P w = .ok (.slice A (n + s.size) c') w' := hr
  rw [hr']; rfl
end
end Go.Wk
namespace Go.Proofs.YtgbmambkgcjhfaaGreatDoor
open Go Go.Proofs Go.Wk Go.Pl
/-- Bytes as a string. -/
def bsS (bs : List Nat) : ByteArray := strOf (bs.map UInt8.ofNat)
theorem bsS_size (bs : List Nat) : (bsS bs).size = bs.length := by unfold bsS; rw [strOf_size, List.length_map]
theorem bsS_cells {bs : List Nat} (h : ∀ x, x ∈ bs → x < 256) : Lib.strCells (bsS bs) = byC bs := by
  unfold bsS
  show (strOf (bs.map UInt8.ofNat)).data.toList.map (fun b : UInt8 => Value.int .u8 (b.toNat : Int)) = _
  rw [strOf_data, List.map_map]
  unfold byC
  refine List.map_congr_left fun x hx => ?_
  have := h x hx
  show Value.int .u8 (((UInt8.ofNat x).toNat : Nat) : Int) = .int .u8 (x : Int)
  rw [UInt8.toNat_ofNat_of_lt' this]
theorem bsS_inj {a b : List Nat} (ha : ∀ x, x ∈ a → x < 256) (hb : ∀ x, x ∈ b → x < 256) (h : bsS a = bsS b) : a = b := by
  have h2 : byC a = byC b := by rw [← bsS_cells ha, ← bsS_cells hb, h]
  unfold byC at h2
  have := List.map_inj_right (f := fun x : Nat => Value.int .u8 (x : Int)) (fun x y e => by injection e with _ e; omega) |>.1 h2
  exact this
theorem convSl {K : Value → World → Prop} {w : World} {B : Base} {S : List Asn} {F : List Fact} (H : Hp B S F w) {A : Option Addr} {n c : Nat} {bs : List Nat} [hp : InSl F A n c byteR bs] (k : K (.string (bsS bs)) w) : ConvK Tryz.prog K w 43 9 (.slice A n c) := by
  have hT := tok
  obtain ⟨I, fp, _, ha, _⟩ := H.ex
  obtain ⟨A', c', e1, _, _, _, hel⟩ := ha _ hp.mem
  injection e1 with eA e2 e3
  have hlt : ∀ x, x ∈ bs → x < 256 := fun x hx => by
    obtain ⟨i, hi⟩ := List.mem_iff_getElem?.1 hx
    obtain ⟨b, o, _, _, p, hok, _⟩ := hel i x hi
    exact hok
  refine ConvK.of (v := .string (bsS bs)) (w' := w) ?_ k
  rw [run_convert_bytes_string w 43 9 5 _ _ _ (hT 43 _ rfl).1 (hT 5 _ rfl).1 (hT 9 _ rfl).1]
  have e1 : (bs.map fun x : Nat => Value.int .u8 (x : Int)) = ((bs.map UInt8.ofNat).map fun b : UInt8 => ((b.toNat : Nat) : Int)).map (Value.int .u8) := by
    rw [List.map_map, List.map_map]
    refine List.map_congr_left fun x hx => ?_
    have := hlt x hx
    show Value.int .u8 (x : Int) = Value.int .u8 (((UInt8.ofNat x).toNat : Nat) : Int)
    rw [UInt8.toNat_ofNat_of_lt' this]
  subst e2
  cases A with
  | none =>
    cases bs with
    | nil => rfl
    | cons x r =>
      obtain ⟨b, o, e, _⟩ := hel 0 x rfl
      rw [← eA] at e
      cases e
  | some a =>
    have hload := run_loadCells_list (P := Tryz.prog) w a (bs.map fun x : Nat => Value.int .u8 (x : Int)) fun j v hj => by
      rw [List.getElem?_map] at hj
      obtain ⟨x, hx, rfl⟩ := Option.map_eq_some_iff.1 hj
      obtain ⟨b, o, e, _, p, _, hc, _⟩ := hel j x hx
      rw [← eA] at e
      injection e with e
      subst e
      rw [add_plain]
      have := hc 0 (.int .u8 (x : Int)) rfl
      have e3 : o + j * 1 + 0 = o + j := by omega
      rw [← this]
      show w.cell? ⟨b, o + j, none⟩ = w.cell? ⟨b, o + j * 1 + 0, none⟩
      rw [e3]
    rw [List.length_map, e1] at hload
    rw [run_bytesToString w _ _ _ _ hload, push_fold, show ByteArray.empty.data = #[] from rfl, Array.empty_append]
    rfl
end Go.Proofs.YtgbmambkgcjhfaaGreatDoor
