/- Structs in structs compared. -/
import Derived.Test.YtjlfjjgjghdokaaGreatDoorLy18
import Derived.Shelf.SlSortCmp.WholeK
import Derived.Test.YtjlfjjgjghdokaaGreatDoorProg
set_option linter.unusedVariables false
namespace Go.Wk
/-- As fEq, whatever compares the fields. -/
def fEqW (g : TypeId → Value → Value → Option Bool) (T : Tab) (xs ys : Array Value) : List Field → Option Bool
  | [] => some true
  | f :: fs => bif f.name == "_" then none else match partV (T f.type) xs f.offset, partV (T f.type) ys f.offset with
    | some a, some b => match g f.type a b, fEqW g T xs ys fs with
      | some r, some s => some (r && s)
      | _, _ => none
    | _, _ => none
/-- Values compared through so many structs of the types that are named. -/
def leafN (T : Tab) (oks : List TypeId) : Nat → TypeId → Value → Value → Option Bool
  | 0, t, x, y => leafEq (T t) x y
  | n + 1, t, x, y => match T t, x, y with
    | some ⟨.struct fs, _⟩, .agg xs, .agg ys => bif oks.contains t then fEqW (leafN T oks n) T xs ys fs.toList else none
    | _, _, _ => leafEq (T t) x y
section
variable {P : Program} {T : Tab} {K : Value → World → Prop} {w : World}
theorem fEqW_sound (hT : T.Ok P) {g : TypeId → Value → Value → Option Bool} {d : Nat} {xs ys : Array Value} (hg : ∀ t x y r, g t x y = some r → ∀ w, (Op.equalIn (d + 1) t x y).run P w = .ok r w) :
    ∀ {fs : List Field} {r : Bool}, fEqW g T xs ys fs = some r → ∀ w, (Op.eqFields (d + 1) xs ys fs).run P w = .ok r w
  | [], r, h, w => by simp only [fEqW, Option.some.injEq] at h; subst h; rfl
  | f :: fs, r, h, w => by
    unfold fEqW at h
    cases hn : (f.name == "_") with
    | true => rw [hn] at h; cases h
    | false =>
      rw [hn] at h
      simp only [cond_false] at h
      have hn' : f.name ≠ "_" := by simpa using hn
      cases ha : partV (T f.type) xs f.offset with
      | none => rw [ha] at h; cases h
      | some a =>
        cases hb : partV (T f.type) ys f.offset with
        | none => rw [ha, hb] at h; cases h
        | some b =>
          rw [ha, hb] at h
          simp only at h
          cases hr : g f.type a b with
          | none => rw [hr] at h; cases h
          | some r1 =>
            cases hs : fEqW g T xs ys fs with
            | none => rw [hr, hs] at h; cases h
            | some s =>
              rw [hr, hs] at h
              simp only [Option.some.injEq] at h
              subst h
              have ih := fEqW_sound hT hg hs
              simp only [Op.eqFields, hn', ne_eq, not_false_eq_true, if_true, Sem.run_bind, run_part hT ha, run_part hT hb, Result.andThen_ok, hg _ _ _ _ hr, Sem.run_ite]
              cases r1 with
              | false => simp
              | true => simpa using ih w
theorem leafN_sound (hT : T.Ok P) {oks : List TypeId} (ho : ∀ t, oks.contains t = true → P.stoodInHeld t = false) : ∀ (n d : Nat), n ≤ d → ∀ (t : TypeId) (x y : Value) (r : Bool), leafN T oks n t x y = some r → ∀ w, (Op.equalIn (d + 1) t x y).run P w = .ok r w
  | 0, d, _, t, x, y, r, h, w => leaf_sound hT h w
  | n + 1, d, hd, t, x, y, r, h, w => by
    unfold leafN at h
    split at h
    · rename_i fs i xs ys ht
      cases hc : oks.contains t with
      | false => rw [hc] at h; cases h
      | true =>
        rw [hc] at h
        simp only [cond_true] at h
        have hf : P.fieldsOf t = fs := by unfold Program.fieldsOf; rw [(hT t _ ht).1]
        have := run_equalIn_struct (P := P) w d t xs ys (by rw [hf]; exact (hT t _ ht).1) (ho t hc)
        rw [this, hf]
        obtain ⟨d', rfl⟩ : ∃ d', d = d' + 1 := ⟨d - 1, by omega⟩
        exact fEqW_sound hT (leafN_sound hT ho n d' (by omega)) h w
    · exact leaf_sound hT h w
theorem neN_struct (hT : T.Ok P) (oks : List TypeId) (n : Nat) {t : TypeId} {xs ys : Array Value} {ox oy : Operand} {r : Bool} (ho : ∀ t, oks.contains t = true → P.stoodInHeld t = false) (hn : Nat.ble n 9999 = true) (hg : P.eqGuardType P.depth t = false)
    (h : leafN T oks n t (.agg xs) (.agg ys) = some r) (k : K (.bool (!r)) w) : BinK P K w .neq t ox oy (.agg xs) (.agg ys) := by
  refine BinK.of ?_ k
  have e := leafN_sound hT ho n 9999 (Nat.le_of_ble_eq_true hn) t (.agg xs) (.agg ys) r h w
  simp only [binS, Sem.run_bind, run_eqGuard_agg w .neq t ox oy xs ys hg, Result.andThen_ok, run_neq_struct]
  rw [e]
  rfl
end
end Go.Wk
set_option linter.unusedVariables false
namespace Go.Proofs.YtjlfjjgjghdokaaGreatDoor
open Go Go.Proofs Go.Wk
theorem srt_unique : ∀ {l m : List Ev}, l.Perm m → evSrt l → evSrt m → (∀ a b, a ∈ l → b ∈ l → a.seq = b.seq → a = b) → l = m
  | [], m, hp, _, _, _ => (hp.symm.eq_nil).symm
  | a :: r, [], hp, _, _, _ => by cases hp.eq_nil
  | a :: r, b :: s, hp, h1, h2, hq => by
    have ha : a ∈ b :: s := hp.mem_iff.1 List.mem_cons_self
    have hb : b ∈ a :: r := hp.mem_iff.2 List.mem_cons_self
    obtain ⟨p1, q1⟩ := List.pairwise_cons.1 h1
    obtain ⟨p2, q2⟩ := List.pairwise_cons.1 h2
    have e : a = b := by
      rcases List.mem_cons.1 ha with e | ha
      · exact e
      · rcases List.mem_cons.1 hb with e | hb'
        · exact e.symm
        · have u := p1 b hb'
          have v := p2 a ha
          exact hq a b List.mem_cons_self hb (by unfold evLe at u v; omega)
    subst e
    rw [srt_unique (List.Perm.cons_inv hp) q1 q2 fun x y hx hy => hq x y (List.mem_cons_of_mem _ hx) (List.mem_cons_of_mem _ hy)]
theorem guard44 : Tryz.prog.eqGuardType Tryz.prog.depth 44 = false := by kernel_rfl
theorem held44 : Tryz.prog.stoodInHeld 44 = false := by kernel_rfl
theorem okSt (t : TypeId) (h : [44, 41].contains t = true) : Tryz.prog.stoodInHeld t = false := by
  have h2 : t = 44 ∨ t = 41 := by simpa using h
  rcases h2 with e | e <;> rw [e]
  · exact held44
  · exact held41
def stEq (a b : St) : Bool := ((a.fees == b.fees) && ((a.int == b.int) && ((a.prin == b.prin) && true))) && ((a.carry == b.carry) && ((a.paid == b.paid) && ((a.susp == b.susp) && ((a.recv == b.recv) && ((a.cash == b.cash) && ((a.status == b.status) && true))))))
theorem stEq_self (a : St) : stEq a a = true := by unfold stEq; simp
theorem stEqV (a b : St) : leafN tb [44, 41] 2 44 (stV a) (stV b) = some (stEq a b) := rfl
theorem enC_len (x : En) : (enC x).length = 5 := rfl
@[reducible] def enV (x : En) : Value := .agg #[.int .u32 x.k.loan, .int .i32 x.k.day, .int .u8 x.k.kind, .int .u32 x.k.seq, .slice x.s.A x.s.n x.s.c]
theorem ens_get {es : List En} {j : Nat} {x : En} (h : es[j]? = some x) : ldV (tb 71) (ensC es) (0 + j * 5) = some (enV x) := by
  obtain ⟨hj, _⟩ := List.getElem?_eq_some_iff.1 h
  show (bif Nat.ble (0 + j * 5 + 5) (ensC es).length then some (Value.agg (((ensC es).drop (0 + j * 5)).take 5).toArray) else none) = _
  have hl : (ensC es).length = es.length * 5 := flatL_len enC_len es
  rw [Nat.zero_add, flatL_at enC_len h]
  have : Nat.ble (j * 5 + 5) (ensC es).length = true := by rw [Nat.ble_eq, hl]; omega
  rw [this]
  rfl
theorem hpEn {w : World} {B : Base} {S : List Asn} {F : List Fact} (H : Hp B S F w) (es : List En) [hp : InF F (EnF es)] {j : Nat} {x : En} (h : es[j]? = some x) : Hp B S (Sl legR (.slice x.s.A x.s.n x.s.c) x.ls :: F) w := H.facts fun I ha f hf => by
  rcases List.mem_cons.1 hf with rfl | hf
  · exact ha (EnF es) hp.mem x (List.mem_of_getElem? h)
  · exact ha f hf
theorem sameSelf (k : Key) (ls : List Leg) : sameB k k ls ls = true := by
  unfold sameB
  rw [legsEq_self, eqK_iff.2 rfl]; rfl
theorem kl_at {es fs : List En} (h : es.map kl = fs.map kl) {j : Nat} {x y : En} (hx : es[j]? = some x) (hy : fs[j]? = some y) : x.k = y.k ∧ x.ls = y.ls := by
  have e : (es.map kl)[j]? = (fs.map kl)[j]? := by rw [h]
  rw [List.getElem?_map, List.getElem?_map, hx, hy] at e
  have e : kl x = kl y := Option.some.inj e
  exact ⟨congrArg Prod.fst e, congrArg Prod.snd e⟩
end Go.Proofs.YtjlfjjgjghdokaaGreatDoor
set_option linter.unusedVariables false
namespace Go.Wk
open Go.RowKit Go.Lib Go.Sort Go.Proofs
theorem flatL_get {α : Type} [Inhabited α] {f : α → List Value} {k : Nat} (hk : ∀ x, (f x).length = k) (xs : List α) {t : Nat} (ht : t < xs.length * k) : (flatL f xs)[t]? = some (f xs.toArray[t / k]!)[t % k]! := by
  have k0 : 0 < k := by rcases Nat.eq_zero_or_pos k with h | h; · subst h; simp at ht
                        · exact h
  have hi : t / k < xs.length := Nat.div_lt_of_lt_mul (by rw [Nat.mul_comm]; exact ht)
  have e := flatL_at (f := f) (sz := k) hk (List.getElem?_eq_getElem hi)
  have hm := Nat.mod_lt t k0
  have e2 : (flatL f xs)[t / k * k + t % k]? = (f xs[t / k])[t % k]? := by
    rw [← e, List.getElem?_take, if_pos hm, List.getElem?_drop]
  rw [Nat.div_add_mod'] at e2
  rw [e2, List.getElem?_eq_getElem (by rw [hk]; exact hm)]
  congr 1
  rw [getElem!_pos (xs.toArray) (t / k) (by simpa using hi), getElem!_pos _ (t % k) (by rw [hk]; exact hm)]
  rfl
theorem flatK_list {α : Type} [Inhabited α] {f : α → List Value} {k : Nat} (hk : ∀ x, (f x).length = k) (d : Array α) : (flatK f k d).toList = flatL f d.toList := by
  apply List.ext_getElem?
  intro t
  by_cases ht : t < d.size * k
  · have h1 : (flatK f k d).toList[t]? = some (f d[t / k]!)[t % k]! := by
      rw [Array.getElem?_toList, Array.getElem?_eq_getElem (by simpa using ht)]
      congr 1
      have := get_flatK f k d t ht
      rwa [getElem!_pos (flatK f k d) t (by simpa using ht)] at this
    rw [h1, flatL_get hk d.toList (by simpa using ht)]
  · rw [List.getElem?_eq_none (by simpa using Nat.not_lt.1 ht), List.getElem?_eq_none (by rw [flatL_len hk]; simpa using Nat.not_lt.1 ht)]
theorem putCells_list (F cur : Array Value) (h : F.size ≤ cur.size) : (putCells id 0 F cur).toList.take F.size = F.toList := by
  apply List.ext_getElem?
  intro t
  rw [List.getElem?_take]
  by_cases ht : t < F.size
  · rw [if_pos ht, Array.getElem?_toList, Array.getElem?_toList]
    unfold putCells
    rw [Array.getElem?_mapIdx, Array.getElem?_eq_getElem (by omega), Array.getElem?_eq_getElem ht]
    simp only [Option.map_some, Nat.zero_le, Nat.zero_add, ht, true_and, if_true, Nat.sub_zero, id]
    rw [getElem!_pos F t ht]
  · rw [if_neg ht, List.getElem?_eq_none (by simpa using ht)]
variable {B : Base} {S : List Asn} {F : List Fact} {w : World}
/-- What a row holds, in the sort's own words. -/
theorem Hp.holdsK {α : Type} [Inhabited α] {f : α → List Value} {k : Nat} (hk : ∀ x, (f x).length = k) {b e n c : Nat} {d : Array α} (hn : n = d.size) (H : Hp B (row e k (.slice (some ⟨b, 0, none⟩) n c) n (flatL f d.toList) :: S) F w) : HoldsK f k w b 0 d ∧ b < w.heap.size := by
  obtain ⟨fa, ha⟩ := Hp.own (A := row e k (.slice (some ⟨b, 0, none⟩) n c) n (flatL f d.toList)) (hp := ⟨.refl _⟩) H
  rcases ha.1.2 with ⟨q2, _⟩ | ⟨g, cap, cur, q2, q4, q5, q6, q7, q8, q9⟩
  · cases q2
  · injection q2 with e1 e2 e3
    injection e1 with e1
    injection e1 with e1
    subst e1 e3
    refine ⟨fun j hj => ?_, (Array.getElem?_eq_some_iff.1 q5).1⟩
    have hj : j < d.size * k := by simpa using hj
    have h1 : (flatL f d.toList)[j]? = some (flatK f k d)[j]! := by
      rw [← flatK_list hk d, Array.getElem?_toList, getElem!_pos (flatK f k d) j (by simpa using hj)]
      exact Array.getElem?_eq_getElem (by simpa using hj)
    rw [← q9, List.getElem?_take, if_pos (by rw [hn]; exact hj), Array.getElem?_toList] at h1
    constructor
    · unfold World.cell?
      simp only [q5, Nat.zero_add]
      simpa using h1
    · unfold World.frozen?
      simp only [q5]
      simp
/-- What the sort leaves of a row. -/
theorem Hp.sorted {α : Type} [Inhabited α] {f : α → List Value} {k : Nat} (hk : ∀ x, (f x).length = k) {b e n c m : Nat} {cs : List Value} {d : Array α} {os : Array Obj} (hn : n = d.size) (H : Hp B (row e k (.slice (some ⟨b, 0, none⟩) n c) n cs :: S) F w) : Hp B (row e k (.slice (some ⟨b, 0, none⟩) n c) n (flatL f d.toList) :: S) F (sortWorldK f k w b 0 m d os) := by
  have H1 : Hp B (row e k (.slice (some ⟨b, 0, none⟩) n c) n (flatL f d.toList) :: S) F (putRowK f k (Sort.ahead w m) b 0 d) := by
    have he : ∀ j, j ≠ b → (putRowK f k (Sort.ahead w m) b 0 d).heap[j]? = w.heap[j]? := fun j hj => by
      show (w.heap.modify b _)[j]? = _
      rw [Array.getElem?_modify, if_neg (Ne.symm hj)]
    refine H.step (A := row e k (.slice (some ⟨b, 0, none⟩) n c) n cs) (hp := ⟨.refl _⟩) rfl rfl rfl (by show w.heap.size ≤ (w.heap.modify b _).size; simp) fun fa ha => ?_
    rcases ha.1.2 with ⟨q2, _⟩ | ⟨g, cap, cur, q2, q4, q5, q6, q7, q8, q9⟩
    · cases q2
    · injection q2 with e1 e2 e3
      injection e1 with e1
      injection e1 with e1
      subst e1 e3
      have hsz : (flatK f k d).size ≤ cur.size := by rw [size_flatK, q8, ← hn]; exact Nat.mul_le_mul_right _ q6
      refine ⟨fun j _ hj => he j fun e => hj ((ha.2 j).2 (by rw [e]; rfl)), fa, ⟨⟨by rw [flatL_len hk, hn]; simp, .inr ⟨b, c, putCells id 0 (flatK f k d) cur, rfl, q4, ?_, q6, q7, by unfold putCells; simpa using q8, ?_⟩⟩, ha.2⟩, fun j hj => .inl hj⟩
      · show (w.heap.modify b _)[b]? = _
        rw [Array.getElem?_modify, if_pos rfl, q5]
        rfl
      · have := putCells_list (flatK f k d) cur hsz
        rw [size_flatK, ← hn, flatK_list hk d] at this
        exact this
  exact H1.below (below_grow _ 0 os)
/-- Nothing owned, nothing known: it is counted how often the tape was asked. -/
@[reducible] def Mode.exact : Mode := ⟨True⟩
theorem hpNone (W : World) : @Hp Mode.exact ⟨W, fun _ => False, fun _ => False⟩ [] [] W :=
  @Hp.mk Mode.exact ⟨W, fun _ => False, fun _ => False⟩ [] [] W rfl rfl ⟨rfl, fun _ => Nat.le_refl _⟩ (Nat.le_refl _) (fun _ _ _ => rfl) ⟨fun _ => False, fun _ => False, fun _ h => h, (fun f hf => by cases hf), fun _ h => h.elim, fun _ h => h.elim, fun _ h => h.elim, fun _ h => h.elim, fun _ h => h.elim⟩
/-- Who owns nothing and is handed nothing leaves a world that has grown. -/
theorem grown_of {P : Program} {g : Nat} {args : List Value} {W : World} {α : Type} {V : α → Value} {φ : α → Prop} {A : α → List Asn} {G : α → List Fact} (h : @Ctr Mode.exact P g args W (fun _ => False) (fun _ => False) α V φ A G) :
    Calls P g args.toArray W fun e w' => ∃ a, e = .returned (V a) ∧ φ a ∧ ∃ q os, w' = Sort.grow (W.drewN q) os := by
  refine h.2.mono ?_
  rintro e w' ⟨v, rfl, a, rfl, hφ, hH⟩
  refine ⟨a, rfl, hφ, w'.drawn - W.drawn, w'.heap.extract W.heap.size w'.heap.size, ?_⟩
  obtain ⟨h1, h2, h3, h4, h5, _⟩ := hH
  obtain ⟨h3, h6⟩ := h3
  have h6 := h6 trivial
  obtain ⟨hp, tp, dr, os, op⟩ := w'
  simp only at h1 h2 h3 h4 h5 h6 ⊢
  unfold Sort.grow World.drewN
  simp only [World.mk.injEq]
  refine ⟨?_, h2, by omega, h1, h3⟩
  apply Array.ext_getElem?
  intro i
  by_cases hi : i < W.heap.size
  · rw [Array.getElem?_append_left hi]
    exact h5 i hi id
  · rw [Array.getElem?_append_right (by omega), Array.getElem?_extract]
    by_cases hj : i < hp.size
    · rw [if_pos (by omega)]
      congr 1
      omega
    · rw [if_neg (by omega), Array.getElem?_eq_none (by omega)]
theorem perm_of {α : Type} [Inhabited α] {d d' : Array α} (h : PermIn 0 d.size d d') : d'.toList.Perm d.toList := by
  obtain ⟨h1, _, h3⟩ := h
  have e1 : d.extract 0 d.size = d := by simp
  have e2 : d'.extract 0 d.size = d' := by rw [← h1]; simp
  rwa [e1, e2] at h3
theorem sorted_of {α : Type} [Inhabited α] {cf : α → α → Int} {d : Array α} {n : Nat} (hn : n = d.size) (h : SortedIn (ltOf cf) 0 n d) : d.toList.Pairwise fun x y => ¬ cf y x < 0 := by
  rw [List.pairwise_iff_getElem]
  intro i j hi hj hij
  have hi2 : i < d.size := by simpa using hi
  have hj2 : j < d.size := by simpa using hj
  have h1 := h i j (Nat.zero_le _) hij (by omega)
  rw [getElem!_pos d j hj2, getElem!_pos d i hi2] at h1
  simpa [ltOf] using h1
/-- slices.SortFunc at a row of one's own, whatever its length. -/
theorem sortRow {α : Type} [Inhabited α] {P : Program} {ρ : Go.Shelf.Ren} (L : SlLaysF0.n6 P ρ) {g0 : Nat} (e0 : ρ.f 6 = g0) (hc0 : ∀ z w, (callFunc g0 z).run P w = .ok (.enter g0 z) w) (k : Nat) (aE : ∀ w, (isAgg (ρ.t 24)).run P w = .ok true w) (zE : ∀ w, (Go.sizeOf (ρ.t 24)).run P w = .ok k w)
    {enc : α → List Value} (hk : ∀ x, (enc x).length = k) (h1 : ∀ x, ∀ v ∈ enc x, v.oneCell' = true) {cf : α → α → Int} (hO : SWO (ltOf cf)) (g : Nat) (eg : ∀ args w, (callFunc g args).run P w = .ok (.enter g args) w)
    (hcmp : ∀ (x y : α) (W : World), Calls P g #[.agg (enc x).toArray, .agg (enc y).toArray] W fun e w' => e = .returned (.int .i64 (cf x y)) ∧ ∃ q os, w' = grow (W.drewN q) os)
    (b e n c : Nat) (xs : List α) (hn : n = xs.length) (hsz : n < 4611686018427387904) (w : World) (M I : BS) (S : List Asn) (F : List Fact) (H : Hp ⟨w, M, I⟩ (row e k (.slice (some ⟨b, 0, none⟩) n c) n (flatL enc xs) :: S) F w) :
    Ctr P g0 [.slice (some ⟨b, 0, none⟩) n c, .func (.func g) #[] #[]] w M I (fun _ : List α => .tuple #[]) (fun l => l.Perm xs ∧ l.Pairwise fun x y => ¬ cf y x < 0) (fun l => row e k (.slice (some ⟨b, 0, none⟩) n c) n (flatL enc l) :: S) (fun _ => F) := by
  have hd : n = xs.toArray.size := by simpa using hn
  obtain ⟨hH, hb⟩ := H.holdsK (f := enc) hk (d := xs.toArray) hd
  have hC := AnyQ.slices_SortFunc L k aE zE enc hk h1 cf hO g #[] b 0 c xs.toArray w eg (fun m os dk hdk x y => hcmp x y _) hH hb (by omega)
  rw [e0, ← hd] at hC
  refine Ctr.of_calls hc0 (hC.mono fun e2 w' hh => ?_)
  obtain ⟨he, d', m, os, hp, hs, hw⟩ := hh
  rw [hd] at hp
  have h3 : d'.size = n := by rw [hp.1, ← hd]
  refine ⟨d'.toList, he, ⟨perm_of hp, sorted_of h3.symm hs⟩, ?_⟩
  rw [hw]
  exact H.sorted hk h3.symm
end Go.Wk
namespace Go.Proofs
open Go.Shelf
def Tryz.sortEn_ren : Go.Shelf.Ren := ⟨fun | 6 => 66 | 15 => 121 | 14 => 120 | 28 => 176 | 29 => 177 | 20 => 168 | 21 => 169 | 22 => 170 | 23 => 171 | 24 => 172 | 25 => 173 | 26 => 174 | 27 => 175 | 46 => 224 | 47 => 225 | 48 => 226 | 49 => 227 | 50 => 228 | 57 => 251 | n => n, fun | 22 => 45 | 24 => 71 | 25 => 161 | 3 => 3 | 39 => 229 | 0 => 0 | 53 => 23 | 55 => 42 | 4 => 4 | 46 => 304 | 45 => 303 | 50 => 218 | 5 => 5 | 9 => 9 | 66 => 358 | 70 => 361 | 76 => 385 | 77 => 168 | n => n, fun | n => n⟩
theorem Tryz.sortEn : Go.Proofs.SlLaysF0.n6 Tryz.prog Tryz.sortEn_ren := {
  mixed := by kernel_rfl
  f6 := ⟨Tryz.f66.name, by decide, Tryz.func66.trans (congrArg some (by kernel_rfl))⟩
  f14 := ⟨Tryz.f120.name, by decide, Tryz.func120.trans (congrArg some (by kernel_rfl))⟩
  f15 := Tryz.func121.trans (congrArg some (by kernel_rfl))
  f20 := ⟨Tryz.f168.name, by decide, Tryz.func168.trans (congrArg some (by kernel_rfl))⟩
  f21 := ⟨Tryz.f169.name, by decide, Tryz.func169.trans (congrArg some (by kernel_rfl))⟩
  f22 := ⟨Tryz.f170.name, by decide, Tryz.func170.trans (congrArg some (by kernel_rfl))⟩
  f23 := ⟨Tryz.f171.name, by decide, Tryz.func171.trans (congrArg some (by kernel_rfl))⟩
  f24 := ⟨Tryz.f172.name, by decide, Tryz.func172.trans (congrArg some (by kernel_rfl))⟩
  f25 := ⟨Tryz.f173.name, by decide, Tryz.func173.trans (congrArg some (by kernel_rfl))⟩
  f26 := ⟨Tryz.f174.name, by decide, Tryz.func174.trans (congrArg some (by kernel_rfl))⟩
  f27 := ⟨Tryz.f175.name, by decide, Tryz.func175.trans (congrArg some (by kernel_rfl))⟩
  f28 := Tryz.func176.trans (congrArg some (by kernel_rfl))
  f29 := Tryz.func177.trans (congrArg some (by kernel_rfl))
  f46 := ⟨Tryz.f224.name, by decide, Tryz.func224.trans (congrArg some (by kernel_rfl))⟩
  f47 := Tryz.func225.trans (congrArg some (by kernel_rfl))
  f48 := Tryz.func226.trans (congrArg some (by kernel_rfl))
  f49 := ⟨Tryz.f227.name, by decide, Tryz.func227.trans (congrArg some (by kernel_rfl))⟩
  f50 := ⟨Tryz.f228.name, by decide, Tryz.func228.trans (congrArg some (by kernel_rfl))⟩
  f57 := ⟨Tryz.f251.name, by decide, Tryz.func251.trans (congrArg some (by kernel_rfl))⟩
  t0 := Tryz.underlying0
  a0 := Tryz.isAgg0
  z0 := Tryz.sizeOf0
  v0 := Tryz.zeroValue0
  t3 := Tryz.underlying3
  a3 := Tryz.isAgg3
  z3 := Tryz.sizeOf3
  v3 := Tryz.zeroValue3
  t4 := Tryz.underlying4
  a4 := Tryz.isAgg4
  z4 := Tryz.sizeOf4
  v4 := Tryz.zeroValue4
  t5 := Tryz.underlying5
  a5 := Tryz.isAgg5
  z5 := Tryz.sizeOf5
  v5 := Tryz.zeroValue5
  t9 := Tryz.underlying9
  a9 := Tryz.isAgg9
  z9 := Tryz.sizeOf9
  v9 := Tryz.zeroValue9
  t22 := Tryz.underlying45
  a22 := Tryz.isAgg45
  z22 := Tryz.sizeOf45
  v22 := Tryz.zeroValue45
  t25 := Tryz.underlying161
  a25 := Tryz.isAgg161
  z25 := Tryz.sizeOf161
  v25 := Tryz.zeroValue161
  t39 := Tryz.underlying229
  a39 := Tryz.isAgg229
  z39 := Tryz.sizeOf229
  v39 := Tryz.zeroValue229
  t45 := Tryz.underlying303
  a45 := Tryz.isAgg303
  z45 := Tryz.sizeOf303
  v45 := Tryz.zeroValue303
  t46 := Tryz.underlying304
  a46 := Tryz.isAgg304
  z46 := Tryz.sizeOf304
  v46 := Tryz.zeroValue304
  t50 := Tryz.underlying218
  a50 := Tryz.isAgg218
  z50 := Tryz.sizeOf218
  v50 := Tryz.zeroValue218
  t53 := Tryz.underlying23
  a53 := Tryz.isAgg23
  z53 := Tryz.sizeOf23
  v53 := Tryz.zeroValue23
  t55 := Tryz.underlying42
  a55 := Tryz.isAgg42
  z55 := Tryz.sizeOf42
  v55 := Tryz.zeroValue42
  t66 := Tryz.underlying358
  a66 := Tryz.isAgg358
  z66 := Tryz.sizeOf358
  v66 := Tryz.zeroValue358
  t70 := Tryz.underlying361
  a70 := Tryz.isAgg361
  z70 := Tryz.sizeOf361
  v70 := Tryz.zeroValue361
  t76 := Tryz.underlying385
  a76 := Tryz.isAgg385
  z76 := Tryz.sizeOf385
  v76 := Tryz.zeroValue385
  t77 := Tryz.underlying168
  a77 := Tryz.isAgg168
  z77 := Tryz.sizeOf168
  v77 := Tryz.zeroValue168 }
end Go.Proofs
set_option linter.unusedVariables false
namespace Go.Proofs.YtjlfjjgjghdokaaGreatDoor
open Go Go.Proofs Go.Wk
def kLt (a b : Key) : Prop := a.loan < b.loan ∨ (a.loan = b.loan ∧ (a.day < b.day ∨ (a.day = b.day ∧ (a.kind < b.kind ∨ (a.kind = b.kind ∧ a.seq < b.seq)))))
theorem lessB_iff {a b : Key} : lessB a b = true ↔ kLt a b := by
  obtain ⟨a1, a2, a3, a4⟩ := a
  obtain ⟨b1, b2, b3, b4⟩ := b
  have c0 : ∀ {x y : Int}, x = y → cmpI x y = 0 := fun h => by unfold cmpI; rw [if_neg (by omega), if_neg (by omega)]
  have c1 : ∀ {x y : Int}, x < y → cmpI x y = -1 := fun h => by unfold cmpI; rw [if_pos h]
  have c2 : ∀ {x y : Int}, y < x → cmpI x y = 1 := fun h => by unfold cmpI; rw [if_neg (by omega), if_pos h]
  unfold lessB kLt
  rw [decide_eq_true_eq]
  simp only
  rcases Int.lt_trichotomy a1 b1 with h | h | h
  · rw [c1 h]; simp [orL, h]
  · rcases Int.lt_trichotomy a2 b2 with h2 | h2 | h2
    · rw [c0 h, c1 h2]; simp [orL, h, h2]
    · rcases Int.lt_trichotomy a3 b3 with h3 | h3 | h3
      · rw [c0 h, c0 h2, c1 h3]; simp [orL, h, h2, h3]
      · rcases Int.lt_trichotomy a4 b4 with h4 | h4 | h4
        · rw [c0 h, c0 h2, c0 h3, c1 h4]; simp [orL, h, h2, h3, h4]
        · rw [c0 h, c0 h2, c0 h3, c0 h4]; simp [orL, h, h2, h3, h4]
        · rw [c0 h, c0 h2, c0 h3, c2 h4]; simp [orL, h, h2, h3]; omega
      · rw [c0 h, c0 h2, c2 h3]; simp [orL, h, h2]; omega
    · rw [c0 h, c2 h2]; simp [orL, h]; omega
  · rw [c2 h]; simp [orL]; omega
def leE (a b : En) : Prop := ¬ kLt b.k a.k
def srtE (l : List En) : Prop := l.Pairwise leE
/-- What the comparer answers. -/
def cmpE (a b : En) : Int := if lessB a.k b.k = true then -1 else 1
theorem cmpE_lt {a b : En} (h : cmpE a b < 0) : lessB a.k b.k = true := by
  unfold cmpE at h
  split at h
  · assumption
  · omega
theorem cmpA [Wk.Mode] (a b : En) : CB 67 [enV a, enV b] (.int .i64 (cmpE a b)) := by
  intro w M I H
  refine Exe.of_ev tok Tryz.call67 Tryz.func67 rfl rfl rfl ?_
  refine box_as H (enC a) rfl fun x w1 H1 => ?_
  refine box_as H1 (enC b) rfl fun y w2 H2 => ?_
  refine load_rule tok H2 (v := keyV a.k) rfl ?_
  refine load_rule tok H2 (v := keyV b.k) rfl ?_
  refine call_rule H2 (fun M I _ h => less a.k b.k _ M I h) fun _ w3 _ H3 => ?_
  refine br (fun q => ?_) (fun q => ?_)
  · refine Exists.intro () (And.intro (congrArg (Value.int .i64) ?_) (And.intro trivial (H3.dropAll)))
    unfold cmpE
    rw [if_pos q]
  · refine Exists.intro () (And.intro (congrArg (Value.int .i64) ?_) (And.intro trivial (H3.dropAll)))
    unfold cmpE
    rw [if_neg (by rw [q]; decide)]
theorem cmpB [Wk.Mode] (a b : En) : CB 116 [enV a, enV b] (.int .i64 (cmpE a b)) := by
  intro w M I H
  refine Exe.of_ev tok Tryz.call116 Tryz.func116 rfl rfl rfl ?_
  refine box_as H (enC a) rfl fun x w1 H1 => ?_
  refine box_as H1 (enC b) rfl fun y w2 H2 => ?_
  refine load_rule tok H2 (v := keyV a.k) rfl ?_
  refine load_rule tok H2 (v := keyV b.k) rfl ?_
  refine call_rule H2 (fun M I _ h => less a.k b.k _ M I h) fun _ w3 _ H3 => ?_
  refine br (fun q => ?_) (fun q => ?_)
  · refine Exists.intro () (And.intro (congrArg (Value.int .i64) ?_) (And.intro trivial (H3.dropAll)))
    unfold cmpE
    rw [if_pos q]
  · refine Exists.intro () (And.intro (congrArg (Value.int .i64) ?_) (And.intro trivial (H3.dropAll)))
    unfold cmpE
    rw [if_neg (by rw [q]; decide)]
theorem cmpE_iff {a b : En} : cmpE a b < 0 ↔ kLt a.k b.k := by
  rw [← lessB_iff]
  refine ⟨cmpE_lt, fun h => ?_⟩
  unfold cmpE
  rw [if_pos h]
  decide
theorem swoE : Sort.SWO (ltOf cmpE) where
  irrefl x := by
    show decide (cmpE x x < 0) = false
    rw [decide_eq_false_iff_not, cmpE_iff]
    unfold kLt
    omega
  trans x y z h1 h2 := by
    have h1 : decide (cmpE x y < 0) = true := h1
    have h2 : decide (cmpE y z < 0) = true := h2
    show decide (cmpE x z < 0) = true
    rw [decide_eq_true_eq, cmpE_iff] at *
    unfold kLt at *
    omega
  ntrans x y z h1 h2 := by
    have h1 : decide (cmpE x y < 0) = false := h1
    have h2 : decide (cmpE y z < 0) = false := h2
    show decide (cmpE x z < 0) = false
    rw [decide_eq_false_iff_not, cmpE_iff] at *
    unfold kLt at *
    omega
/-- A comparer of entries, in the form that the library's sort asks for. -/
def CmpG (g : Nat) : Prop := (∀ z w, (callFunc g z).run Tryz.prog w = .ok (.enter g z) w) ∧ ∀ (a b : En) (W : World), Calls Tryz.prog g #[.agg (enC a).toArray, .agg (enC b).toArray] W fun e w' => e = .returned (.int .i64 (cmpE a b)) ∧ ∃ q os, w' = Sort.grow (W.drewN q) os
theorem cmpGA : CmpG 67 := ⟨Tryz.call67, fun a b W => (grown_of (@cmpA Mode.exact a b W _ _ (hpNone W))).mono fun _ _ ⟨_, h1, _, h2⟩ => ⟨h1, h2⟩⟩
theorem cmpGB : CmpG 116 := ⟨Tryz.call116, fun a b W => (grown_of (@cmpB Mode.exact a b W _ _ (hpNone W))).mono fun _ _ ⟨_, h1, _, h2⟩ => ⟨h1, h2⟩⟩
instance : Inhabited En := ⟨⟨⟨0, 0, 0, 0⟩, ⟨none, 0, 0⟩, []⟩⟩
theorem enC_1 (x : En) : ∀ u ∈ enC x, u.oneCell' = true := by
  intro u h
  simp only [enC, List.mem_cons, List.not_mem_nil, or_false] at h
  rcases h with rfl | rfl | rfl | rfl | rfl <;> rfl
theorem sortEnt (G : Nat) (hc : CmpG G) (g n c : Nat) (hn : n ≤ 1000000) (ls : List En) (hl : ls.length = n) (w : World) (M I : BS) (H : Hp ⟨w, M, I⟩ [row 71 5 (.slice (some ⟨g, 0, none⟩) n c) n (ensC ls)] [] w) :
    Ctr Tryz.prog 66 [.slice (some ⟨g, 0, none⟩) n c, .func (.func G) #[] #[]] w M I (fun _ : List En => .tuple #[]) (fun l => l.Perm ls ∧ srtE l) (fun l => [row 71 5 (.slice (some ⟨g, 0, none⟩) n c) n (ensC l)]) (fun _ => []) :=
  (sortRow Tryz.sortEn rfl Tryz.call66 5 Tryz.isAgg71 Tryz.sizeOf71 enC_len enC_1 swoE G hc.1 hc.2 g 71 n c ls hl.symm (by omega) w M I [] [] H).imp fun l w' hφ h => ⟨l, rfl, ⟨hφ.1, hφ.2.imp fun {a b} q => fun hk => q (cmpE_iff.2 hk)⟩, h⟩
theorem insEntNil (G : Nat) : CB 168 [.slice none 0 0, .int .i64 0, .int .i64 0, .func (.func G) #[] #[]] (.tuple #[]) := by
  intro w M I H
  refine Exe.of_ev tok Tryz.call168 Tryz.func168 rfl rfl rfl ?_
  refine loop_rule tok (σ := Unit) 9007199254737664 (fun s => [(8, .int .i64 1)]) (fun _ w' => Hp ⟨w, M, I⟩ [] [] w') (fun _ => 0) () rfl rfl ⟨rfl, trivial⟩ H ?_
  rintro ⟨⟩ j0 w1 H1
  exact Exists.intro () (And.intro rfl (And.intro trivial H1))
theorem pdqEntNil (G : Nat) (z : Int) : CB 120 [.slice none 0 0, .int .i64 0, .int .i64 0, .int .i64 z, .func (.func G) #[] #[]] (.tuple #[]) := by
  intro w M I H
  refine Exe.of_ev tok Tryz.call120 Tryz.func120 rfl rfl rfl ?_
  refine loop_rule tok (σ := Unit) 356811923176489970264571492362373784095685646 (fun _ => [(1, .int .i64 0), (2, .int .i64 0)]) (fun _ w' => Hp ⟨w, M, I⟩ [] [] w') (fun _ => 0) () rfl rfl ⟨rfl, rfl, trivial⟩ H ?_
  rintro ⟨⟩ j w1 H1
  refine call_rule H1 (fun M I _ h => insEntNil G _ M I h) fun l w2 hφ H2 => ?_
  exact Exists.intro () (And.intro rfl (And.intro trivial H2))
theorem sortEntNil (G : Nat) : CB 66 [.slice none 0 0, .func (.func G) #[] #[]] (.tuple #[]) := by
  intro w M I H
  refine Exe.of_ev tok Tryz.call66 Tryz.func66 rfl rfl rfl ?_
  refine call_rule H (fun M I _ h => len_ 0 (by omega) (by omega) _ M I h) fun z w1 _ H1 => ?_
  refine call_rule H1 (fun M I _ h => pdqEntNil G z _ M I h) fun l w2 hφ H2 => ?_
  exact Exists.intro () (And.intro rfl (And.intro trivial H2))
end Go.Proofs.YtjlfjjgjghdokaaGreatDoor
namespace Go.Proofs.YtjlfjjgjghdokaaGreatDoor
open Go Go.Proofs Go.Wk Go.Extern
/-- Nothing is owned. -/
def empA : Asn where
  at_ _ fp := ∀ b, ¬ fp b
  loc := fun h _ => h
  lt := fun h hb => absurd hb (h _)
theorem Hp.addEmp {w : World} {B : Base} {S : List Asn} {F : List Fact} (H : Hp B S F w) : Hp B (empA :: S) F w := by
  obtain ⟨h1, h2, h3, h4, h5, I, fp, hs, r⟩ := H
  exact ⟨h1, h2, h3, h4, h5, I, fp, ⟨fun _ => False, fp, fun b h => h, fun _ h => h.elim, fun _ h => h.elim, fun b => by simp, hs⟩, r⟩
/-- An error: none, a number, a fault that wraps a number. -/
inductive ErrF where
  | none
  | code (c : Int)
  | fault (p : Nat) (at_ c : Int)
@[reducible] def errFV : ErrF → Value
  | .none => .nilIface
  | .code c => .iface 100 (.int .i64 c)
  | .fault p _ _ => .iface 116 (.pointer (some ⟨p, 0, none⟩))
def errFA : ErrF → Asn
  | .fault p a c => blk p [.int .u64 a, .iface 100 (.int .i64 c)] 118
  | _ => empA
namespace X
theorem hasUnwrap (v : Value) (xT : TypeId) (w : World) : (Instr.typeAssert (.iface 116 v) xT 298 true).run Tryz.prog w = .ok (.tuple #[.iface 116 v, .bool true]) w :=
  Go.run_typeAssert_hasB Tryz.underlying298 (by kernel_rfl) v xT w
theorem mUnwrap (a : Addr) (w : World) : (Go.method (Tryz.prog.types.size + Made.depth) 116 (.pointer (some a)) "Unwrap").run Tryz.prog w = .ok (306, .pointer (some a)) w := by kernel_rfl
end X
theorem unwrapF (p : Nat) (a c : Int) (w : World) (M I : BS) (H : Hp ⟨w, M, I⟩ [blk p [.int .u64 a, .iface 100 (.int .i64 c)] 118] [] w) :
    Ctr Tryz.prog 306 [.pointer (some ⟨p, 0, none⟩)] w M I (fun _ : Unit => .iface 100 (.int .i64 c)) (fun _ => True) (fun _ => [blk p [.int .u64 a, .iface 100 (.int .i64 c)] 118]) (fun _ => []) := by
  refine Exe.of_ev tok Tryz.call306 Tryz.func306 rfl rfl rfl ?_
  refine load_rule tok H (v := .iface 100 (.int .i64 c)) rfl ?_
  exact Exists.intro () (And.intro rfl (And.intro trivial H))
end Go.Proofs.YtjlfjjgjghdokaaGreatDoor
namespace Go.Proofs.YtjlfjjgjghdokaaGreatDoor
open Go Go.Proofs Go.Wk
structure Pr where
  loan : Int
  acct : Int
  ctl : Bool
deriving DecidableEq
@[reducible] def prV (p : Pr) : Value := .agg #[.int .u32 p.loan, .int .u8 p.acct, .bool p.ctl]
@[reducible] def iV (n : Int) : Value := .int .i64 n
def eqP (a b : Pr) : Bool := a.loan == b.loan && (a.acct == b.acct && (a.ctl == b.ctl && true))
theorem eqP_iff {a b : Pr} : eqP a b = true ↔ a = b := by
  obtain ⟨x1, x2, x3⟩ := a
  obtain ⟨y1, y2, y3⟩ := b
  simp [eqP]
theorem same_key (k : Key) : Instr.sameBits 10000 (keyV k) (keyV k) = true := by
  show Instr.sameBits (9999 + 1) _ _ = true
  generalize 9999 = d
  simp [Instr.sameBits]
theorem same_pr (p : Pr) : Instr.sameBits 10000 (prV p) (prV p) = true := by
  show Instr.sameBits (9999 + 1) _ _ = true
  generalize 9999 = d
  simp [Instr.sameBits]
theorem keyKeys : Keys Tryz.prog 68 keyV :=
  struct_keys tok (fun k : Key => #[.int .u32 k.loan, .int .i32 k.day, .int .u8 k.kind, .int .u32 k.seq]) (fun _ => rfl) rfl Tryz.stoodInHeld68 (fun a b => ⟨eqK a b, rfl, eqK_iff⟩) same_key
theorem prKeys : Keys Tryz.prog 289 prV :=
  struct_keys tok (fun p : Pr => #[.int .u32 p.loan, .int .u8 p.acct, .bool p.ctl]) (fun _ => rfl) rfl Tryz.stoodInHeld289 (fun a b => ⟨eqP a b, rfl, eqP_iff⟩) same_pr
/-- A line: its entry, of which it is the reversal. -/
structure Ln where
  k : Key
  s : SV
  of : Int
  ls : List Leg
@[reducible] def lnC (x : Ln) : List Value := [.int .u32 x.k.loan, .int .i32 x.k.day, .int .u8 x.k.kind, .int .u32 x.k.seq, .slice x.s.A x.s.n x.s.c, .int .i64 x.of]
def lnsC : List Ln → List Value
  | [] => []
  | x :: r => lnC x ++ lnsC r
theorem lnsC_len : ∀ xs : List Ln, (lnsC xs).length = xs.length * 6
  | [] => rfl
  | x :: r => by simp only [lnsC, List.length_append, List.length_cons, List.length_nil, lnsC_len r]; omega
theorem lnsC_app : ∀ a b : List Ln, lnsC (a ++ b) = lnsC a ++ lnsC b
  | [], _ => rfl
  | x :: a, b => by simp [lnsC, lnsC_app a b]
/-- What the lines' legs read asx. -/
def LnF (xs : List Ln) : Fact where
  holds w I := ∀ x, x ∈ xs → (Sl legR (.slice x.s.A x.s.n x.s.c) x.ls).holds w I
  mono := fun h hI hw x hx => (Sl legR _ _).mono (h x hx) hI hw
structure Led where
  lns : List Ln
  live : List (Key × Int)
  sums : List (Pr × Int)
@[reducible] def ledA (l m1 m2 : Nat) (s : SV) (d : Led) : List Asn := [blk l [.slice s.A s.n s.c, .map (some m1), .map (some m2)] 146, row 158 6 (.slice s.A s.n s.c) s.n (lnsC d.lns), mapO m1 keyV iV d.live, mapO m2 prV iV d.sums]
theorem new_ (w : World) (M I : BS) (H : Hp ⟨w, M, I⟩ [] [] w) :
    Ctr Tryz.prog 29 [] w M I (fun a : Nat × Nat × Nat => .pointer (some ⟨a.1, 0, none⟩)) (fun _ => True) (fun a => ledA a.1 a.2.1 a.2.2 ⟨none, 0, 0⟩ ⟨[], [], []⟩) (fun _ => []) := by
  refine Exe.of_ev tok Tryz.call29 Tryz.func29 rfl rfl rfl ?_
  refine makeMap_rule H keyV iV fun m1 w1 H1 => ?_
  refine makeMap_rule H1 prV iV fun m2 w2 H2 => ?_
  refine box_as H2 [.slice none 0 0, .map (some m1), .map (some m2)] rfl fun l w3 H3 => ?_
  have H4 : Hp ⟨w, M, I⟩ [row 158 6 (.slice none 0 0) 0 [], blk l [.slice none 0 0, .map (some m1), .map (some m2)] 146, mapO m2 prV iV [], mapO m1 keyV iV []] [] w3 := Hp.nil H3 158 6
  have H5 : Hp ⟨w, M, I⟩ [blk l [.slice none 0 0, .map (some m1), .map (some m2)] 146, row 158 6 (.slice none 0 0) 0 [], mapO m1 keyV iV [], mapO m2 prV iV []] [] w3 := H4.keep
  exact Exists.intro (l, m1, m2) (And.intro rfl (And.intro trivial H5))
theorem cloneLegs (A : Option Addr) (n c : Nat) (ls : List Leg) (hn : ls.length ≤ 1000000) (w : World) (M I : BS) (hM : ∀ b, ¬ M b) (H : Hp ⟨w, M, I⟩ [] [Sl legR (.slice A n c) ls] w) :
    Ctr Tryz.prog 119 [.slice A n c] w M I (fun a : SV => .slice a.A a.n a.c) (fun _ => True) (fun _ => []) (fun a => [Sl legR (.slice a.A a.n a.c) ls]) := by
  obtain ⟨hl, _, _⟩ := H.sll (A := A) (n := n) (c := c)
  cases A with
  | none =>
    have h0 : n = 0 ∧ c = 0 := by
      obtain ⟨I', _, _, ha, _⟩ := H.ex
      obtain ⟨A', c', e1, _, q2, q3, _⟩ := ha _ List.mem_cons_self
      injection e1 with e1 e2 e3
      have := q3 e1.symm
      omega
    obtain ⟨rfl, rfl⟩ := h0
    refine Exe.of_ev tok Tryz.call119 Tryz.func119 rfl rfl rfl ?_
    exact Exists.intro ⟨none, 0, 0⟩ (And.intro rfl (And.intro trivial (Hp.keep H)))
  | some ad =>
    refine Exe.of_ev tok Tryz.call119 Tryz.func119 rfl rfl rfl ?_
    refine slice_as tok H [] rfl rfl rfl rfl rfl rfl fun g w1 H1 => ?_
    have H2 : Hp ⟨w, M, I⟩ [row 135 2 (.slice (some ⟨g, 0, none⟩) 0 0) 0 []] [Sl legR (.slice (some ad) n c) ls] w1 := H1.toRow 2 0 rfl (by decide)
    refine append_sl (v := .slice (some ⟨g, 0, none⟩) 0 0) (A := some ad) (m := n) (c := c) tok H2 rfl rfl rfl rfl rfl rfl rfl (fun x _ _ => legs_one x) (by show (0 + n) * 16 ≤ _; omega) (by omega) fun A2 c2 news w4 H4 => ?_
    have H4' : Hp ⟨w, M, I⟩ [row 135 2 (.slice A2 (0 + n) c2) (0 + n) news] [Cl legR news ls, Sl legR (.slice (some ad) n c) ls] w4 := H4
    have H5 := H4'.frzRow (v := .slice A2 (0 + n) c2) (xs := ls) legR hM rfl (by decide)
    exact Exists.intro ⟨A2, 0 + n, c2⟩ (And.intro rfl (And.intro trivial (Hp.keep H5)))
theorem lk_put_eq {κ ν : Type} [DecidableEq κ] {k : κ} {v : ν} : ∀ {l : List (κ × ν)}, lk k (putL k v l) = some v
  | [] => by simp [putL, lk]
  | q :: l => by
    unfold putL
    split
    · simp [lk]
    · rename_i h
      unfold lk
      rw [if_neg h]; exact lk_put_eq
theorem lk_put_ne {κ ν : Type} [DecidableEq κ] {k p : κ} {v : ν} (hp : p ≠ k) : ∀ {l : List (κ × ν)}, lk p (putL k v l) = lk p l
  | [] => by simp [putL, lk, Ne.symm hp]
  | q :: l => by
    unfold putL
    split
    · rename_i h
      simp only [lk]
      rw [if_neg (by simpa using Ne.symm hp), if_neg (by rw [h]; exact Ne.symm hp)]
    · simp only [lk]
      split
      · rfl
      · exact lk_put_ne hp
theorem lk_nokey {κ ν : Type} [DecidableEq κ] {p : κ} : ∀ {l : List (κ × ν)}, p ∉ l.map (·.1) → lk p l = none
  | [], _ => rfl
  | q :: l, h => by
    simp only [List.map_cons, List.mem_cons, not_or] at h
    unfold lk
    rw [if_neg (Ne.symm h.1)]
    exact lk_nokey h.2
theorem lk_of_mem {κ ν : Type} [DecidableEq κ] {k : κ} {v : ν} : ∀ {l : List (κ × ν)}, (l.map (·.1)).Nodup → (k, v) ∈ l → lk k l = some v
  | [], _, h => by cases h
  | q :: l, hn, h => by
    simp only [List.map_cons, List.nodup_cons] at hn
    unfold lk
    rcases List.mem_cons.1 h with rfl | h
    · rw [if_pos rfl]
    · rw [if_neg (fun e => hn.1 (by rw [e]; exact List.mem_map_of_mem h)), lk_of_mem hn.2 h]
/-- maps.Copy: whatever the order, what one finds then. -/
theorem copyMap (m2 m3 : Nat) (dst src : List (Pr × Int)) (hnd : (src.map (·.1)).Nodup) (w : World) (M I : BS) (H : Hp ⟨w, M, I⟩ [mapO m2 prV iV dst, mapO m3 prV iV src] [] w) :
    Ctr Tryz.prog 167 [.map (some m2), .map (some m3)] w M I (fun _ : List (Pr × Int) => .tuple #[]) (fun d => ∀ p, lk p d = (lk p src).or (lk p dst)) (fun d => [mapO m2 prV iV d]) (fun _ => []) := by
  refine Exe.of_ev tok Tryz.call167 Tryz.func167 rfl rfl rfl ?_
  refine range_rule (n := m3) tok H rfl fun it w1 H1 => ?_
  have H1 : Hp ⟨w, M, I⟩ [rngO m3 it prV iV src src none, mapO m2 prV iV dst] [] w1 := Hp.keep H1
  refine loop_rule tok (σ := List (Pr × Int) × Option (Pr × Int) × List (Pr × Int)) 65328 (fun _ => [])
    (fun s w' => (∀ q, q ∈ s.1 → q ∈ src) ∧ (s.1.map (·.1)).Nodup ∧ (∀ p, lk p s.2.2 = if p ∈ s.1.map (·.1) then lk p dst else (lk p src).or (lk p dst)) ∧ Hp ⟨w, M, I⟩ [rngO m3 it prV iV src s.1 s.2.1, mapO m2 prV iV s.2.2] [] w') (fun s => s.1.length) (src, none, dst) rfl rfl trivial
    ⟨fun q h => h, hnd, fun p => ?_, H1⟩ ?_
  · simp only
    split
    · rfl
    · rename_i h
      rw [lk_nokey h]; rfl
  rintro ⟨lf, cur, d⟩ j w2 ⟨h1, h2, h3, H2⟩
  simp only at h1 h2 h3 H2
  refine next_rule (n := m3) H2 (fun hl => ?_) fun a p b w3 hl H3 => ?_
  · subst hl
    have hd : ∀ p, lk p d = (lk p src).or (lk p dst) := fun p => by rw [h3 p]; simp
    have H4 : Hp ⟨w, M, I⟩ [mapO m2 prV iV d] [] w2 := Hp.keep H2
    exact Exists.intro d (And.intro rfl (And.intro hd H4))
  · subst hl
    refine entry_rule (n := m3) H3 ?_
    refine alloc_as tok H3 [.int .u32 0, .int .u8 0, .bool false] rfl rfl rfl fun t w4 H4 => ?_
    refine store_as tok H4 [.int .u32 p.1.loan, .int .u8 p.1.acct, .bool p.1.ctl] rfl rfl rfl rfl rfl fun w5 H5 => ?_
    refine load_rule tok H5 (v := prV p.1) rfl ?_
    refine mapUpd_rule (n := m2) (k := p.1) (v := p.2) tok H5 rfl prKeys rfl rfl fun w6 H6 => ?_
    have hnp : p.1 ∉ (a ++ b).map (·.1) := by
      have h := h2
      rw [List.map_append, List.map_cons] at h
      have h := (List.perm_middle.nodup_iff.1 h)
      rw [List.nodup_cons] at h
      rw [List.map_append]; exact h.1
    refine Exists.intro (a ++ b, some p, putL p.1 p.2 d) (And.intro trivial (And.intro ?_ ⟨?_, ?_, ?_, Hp.keep H6⟩))
    · simp only [List.length_append, List.length_cons]; omega
    · intro q hq
      refine h1 q ?_
      rcases List.mem_append.1 hq with hq | hq
      · exact List.mem_append_left _ hq
      · exact List.mem_append_right _ (List.mem_cons_of_mem _ hq)
    · have h := h2
      rw [List.map_append, List.map_cons] at h
      have h := (List.perm_middle.nodup_iff.1 h)
      rw [List.nodup_cons] at h
      rw [List.map_append]; exact h.2
    · intro q
      simp only
      by_cases hq : q = p.1
      · subst hq
        rw [lk_put_eq, if_neg hnp, lk_of_mem (v := p.2) hnd (h1 p (by simp))]; rfl
      · rw [lk_put_ne hq, h3 q]
        have hm : (q ∈ (a ++ p :: b).map (·.1)) ↔ q ∈ (a ++ b).map (·.1) := by
          simp only [List.map_append, List.map_cons, List.mem_append, List.mem_cons]
          constructor
          · rintro (h | h | h)
            · exact .inl h
            · exact absurd h hq
            · exact .inr h
          · rintro (h | h)
            · exact .inl h
            · exact .inr (.inr h)
        simp only [hm]
end Go.Proofs.YtjlfjjgjghdokaaGreatDoor
