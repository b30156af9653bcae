/- The library's sort at a row of one's own: whatever length; what a comparer leaves, exactly. -/
import Derived.Test.YtfemfomgmopibaaGreatDoorLk12
import Derived.Shelf.SlSortCmp.WholeK
import Derived.Test.YtfemfomgmopibaaGreatDoorProg
set_option linter.unusedVariables false
namespace Go.Wk
open Go.RowKit Go.Lib Go.Sort Go.Proofs
theorem flatL_get {α : Type} [Inhabited α] {f : α → List Value} {k : Nat} (hk : ∀ x, (f x).length = k) (xs : List α) {t : Nat} (ht : t < xs.length * k) : (flatL f xs)[t]? = some (f xs.toArray[t / k]!)[t % k]! := by
  have k0 : 0 < k := by rcases Nat.eq_zero_or_pos k with h | h; · subst h; simp at ht
                        · exact h
  have hi : t / k < xs.length := Nat.div_lt_of_lt_mul (by rw [Nat.mul_comm]; exact ht)
  have e := flatL_at (f := f) (sz := k) hk (List.getElem?_eq_getElem hi)
  have hm := Nat.mod_lt t k0
  have e2 : (flatL f xs)[t / k * k + t % k]? = (f xs[t / k])[t % k]? := by
    rw [← e, List.getElem?_take, if_pos hm, List.getElem?_drop]
  rw [Nat.div_add_mod'] at e2
  rw [e2, List.getElem?_eq_getElem (by rw [hk]; exact hm)]
  congr 1
  rw [getElem!_pos (xs.toArray) (t / k) (by simpa using hi), getElem!_pos _ (t % k) (by rw [hk]; exact hm)]
  rfl
theorem flatK_list {α : Type} [Inhabited α] {f : α → List Value} {k : Nat} (hk : ∀ x, (f x).length = k) (d : Array α) : (flatK f k d).toList = flatL f d.toList := by
  apply List.ext_getElem?
  intro t
  by_cases ht : t < d.size * k
  · have h1 : (flatK f k d).toList[t]? = some (f d[t / k]!)[t % k]! := by
      rw [Array.getElem?_toList, Array.getElem?_eq_getElem (by simpa using ht)]
      congr 1
      have := get_flatK f k d t ht
      rwa [getElem!_pos (flatK f k d) t (by simpa using ht)] at this
    rw [h1, flatL_get hk d.toList (by simpa using ht)]
  · rw [List.getElem?_eq_none (by simpa using Nat.not_lt.1 ht), List.getElem?_eq_none (by rw [flatL_len hk]; simpa using Nat.not_lt.1 ht)]
theorem putCells_list (F cur : Array Value) (h : F.size ≤ cur.size) : (putCells id 0 F cur).toList.take F.size = F.toList := by
  apply List.ext_getElem?
  intro t
  rw [List.getElem?_take]
  by_cases ht : t < F.size
  · rw [if_pos ht, Array.getElem?_toList, Array.getElem?_toList]
    unfold putCells
    rw [Array.getElem?_mapIdx, Array.getElem?_eq_getElem (by omega), Array.getElem?_eq_getElem ht]
    simp only [Option.map_some, Nat.zero_le, Nat.zero_add, ht, true_and, if_true, Nat.sub_zero, id]
    rw [getElem!_pos F t ht]
  · rw [if_neg ht, List.getElem?_eq_none (by simpa using ht)]
variable {B : Base} {S : List Asn} {F : List Fact} {w : World}
/-- What a row holds, in the sort's own words. -/
theorem Hp.holdsK {α : Type} [Inhabited α] {f : α → List Value} {k : Nat} (hk : ∀ x, (f x).length = k) {b e n c : Nat} {d : Array α} (hn : n = d.size) (H : Hp B (row e k (.slice (some ⟨b, 0, none⟩) n c) n (flatL f d.toList) :: S) F w) : HoldsK f k w b 0 d ∧ b < w.heap.size := by
  obtain ⟨fa, ha⟩ := Hp.own (A := row e k (.slice (some ⟨b, 0, none⟩) n c) n (flatL f d.toList)) (hp := ⟨.refl _⟩) H
  rcases ha.1.2 with ⟨q2, _⟩ | ⟨g, cap, cur, q2, q4, q5, q6, q7, q8, q9⟩
  · cases q2
  · injection q2 with e1 e2 e3
    injection e1 with e1
    injection e1 with e1
    subst e1 e3
    refine ⟨fun j hj => ?_, (Array.getElem?_eq_some_iff.1 q5).1⟩
    have hj : j < d.size * k := by simpa using hj
    have h1 : (flatL f d.toList)[j]? = some (flatK f k d)[j]! := by
      rw [← flatK_list hk d, Array.getElem?_toList, getElem!_pos (flatK f k d) j (by simpa using hj)]
      exact Array.getElem?_eq_getElem (by simpa using hj)
    rw [← q9, List.getElem?_take, if_pos (by rw [hn]; exact hj), Array.getElem?_toList] at h1
    constructor
    · unfold World.cell?
      simp only [q5, Nat.zero_add]
      simpa using h1
    · unfold World.frozen?
      simp only [q5]
      simp
/-- What the sort leaves of a row. -/
theorem Hp.sorted {α : Type} [Inhabited α] {f : α → List Value} {k : Nat} (hk : ∀ x, (f x).length = k) {b e n c m : Nat} {cs : List Value} {d : Array α} {os : Array Obj} (hn : n = d.size) (H : Hp B (row e k (.slice (some ⟨b, 0, none⟩) n c) n cs :: S) F w) : Hp B (row e k (.slice (some ⟨b, 0, none⟩) n c) n (flatL f d.toList) :: S) F (sortWorldK f k w b 0 m d os) := by
  have H1 : Hp B (row e k (.slice (some ⟨b, 0, none⟩) n c) n (flatL f d.toList) :: S) F (putRowK f k (Sort.ahead w m) b 0 d) := by
    have he : ∀ j, j ≠ b → (putRowK f k (Sort.ahead w m) b 0 d).heap[j]? = w.heap[j]? := fun j hj => by
      show (w.heap.modify b _)[j]? = _
      rw [Array.getElem?_modify, if_neg (Ne.symm hj)]
    refine H.step (A := row e k (.slice (some ⟨b, 0, none⟩) n c) n cs) (hp := ⟨.refl _⟩) rfl rfl rfl (by show w.heap.size ≤ (w.heap.modify b _).size; simp) fun fa ha => ?_
    rcases ha.1.2 with ⟨q2, _⟩ | ⟨g, cap, cur, q2, q4, q5, q6, q7, q8, q9⟩
    · cases q2
    · injection q2 with e1 e2 e3
      injection e1 with e1
      injection e1 with e1
      subst e1 e3
      have hsz : (flatK f k d).size ≤ cur.size := by rw [size_flatK, q8, ← hn]; exact Nat.mul_le_mul_right _ q6
      refine ⟨fun j _ hj => he j fun e => hj ((ha.2 j).2 (by rw [e]; rfl)), fa, ⟨⟨by rw [flatL_len hk, hn]; simp, .inr ⟨b, c, putCells id 0 (flatK f k d) cur, rfl, q4, ?_, q6, q7, by unfold putCells; simpa using q8, ?_⟩⟩, ha.2⟩, fun j hj => .inl hj⟩
      · show (w.heap.modify b _)[b]? = _
        rw [Array.getElem?_modify, if_pos rfl, q5]
        rfl
      · have := putCells_list (flatK f k d) cur hsz
        rw [size_flatK, ← hn, flatK_list hk d] at this
        exact this
  exact H1.below (below_grow _ 0 os)
/-- Nothing owned, nothing known: it is counted how often the tape was asked. -/
@[reducible] def Mode.exact : Mode := ⟨True⟩
theorem hpNone (W : World) : @Hp Mode.exact ⟨W, fun _ => False, fun _ => False⟩ [] [] W :=
  @Hp.mk Mode.exact ⟨W, fun _ => False, fun _ => False⟩ [] [] W rfl rfl ⟨rfl, fun _ => Nat.le_refl _⟩ (Nat.le_refl _) (fun _ _ _ => rfl) ⟨fun _ => False, fun _ => False, fun _ h => h, (fun f hf => by cases hf), fun _ h => h.elim, fun _ h => h.elim, fun _ h => h.elim, fun _ h => h.elim, fun _ h => h.elim⟩
/-- Who owns nothing and is handed nothing leaves a world that has grown. -/
theorem grown_of {P : Program} {g : Nat} {args : List Value} {W : World} {α : Type} {V : α → Value} {φ : α → Prop} {A : α → List Asn} {G : α → List Fact} (h : @Ctr Mode.exact P g args W (fun _ => False) (fun _ => False) α V φ A G) :
    Calls P g args.toArray W fun e w' => ∃ a, e = .returned (V a) ∧ φ a ∧ ∃ q os, w' = Sort.grow (W.drewN q) os := by
  refine h.2.mono ?_
  rintro e w' ⟨v, rfl, a, rfl, hφ, hH⟩
  refine ⟨a, rfl, hφ, w'.drawn - W.drawn, w'.heap.extract W.heap.size w'.heap.size, ?_⟩
  obtain ⟨h1, h2, h3, h4, h5, _⟩ := hH
  obtain ⟨h3, h6⟩ := h3
  have h6 := h6 trivial
  obtain ⟨hp, tp, dr, os, op⟩ := w'
  simp only at h1 h2 h3 h4 h5 h6 ⊢
  unfold Sort.grow World.drewN
  simp only [World.mk.injEq]
  refine ⟨?_, h2, by omega, h1, h3⟩
  apply Array.ext_getElem?
  intro i
  by_cases hi : i < W.heap.size
  · rw [Array.getElem?_append_left hi]
    exact h5 i hi id
  · rw [Array.getElem?_append_right (by omega), Array.getElem?_extract]
    by_cases hj : i < hp.size
    · rw [if_pos (by omega)]
      congr 1
      omega
    · rw [if_neg (by omega), Array.getElem?_eq_none (by omega)]
theorem perm_of {α : Type} [Inhabited α] {d d' : Array α} (h : PermIn 0 d.size d d') : d'.toList.Perm d.toList := by
  obtain ⟨h1, _, h3⟩ := h
  have e1 : d.extract 0 d.size = d := by simp
  have e2 : d'.extract 0 d.size = d' := by rw [← h1]; simp
  rwa [e1, e2] at h3
theorem sorted_of {α : Type} [Inhabited α] {cf : α → α → Int} {d : Array α} {n : Nat} (hn : n = d.size) (h : SortedIn (ltOf cf) 0 n d) : d.toList.Pairwise fun x y => ¬ cf y x < 0 := by
  rw [List.pairwise_iff_getElem]
  intro i j hi hj hij
  have hi2 : i < d.size := by simpa using hi
  have hj2 : j < d.size := by simpa using hj
  have h1 := h i j (Nat.zero_le _) hij (by omega)
  rw [getElem!_pos d j hj2, getElem!_pos d i hi2] at h1
  simpa [ltOf] using h1
/-- slices.SortFunc at a row of one's own, whatever its length. -/
theorem sortRow {α : Type} [Inhabited α] {P : Program} {ρ : Go.Shelf.Ren} (L : SlLaysF0.n6 P ρ) {g0 : Nat} (e0 : ρ.f 6 = g0) (hc0 : ∀ z w, (callFunc g0 z).run P w = .ok (.enter g0 z) w) (k : Nat) (aE : ∀ w, (isAgg (ρ.t 24)).run P w = .ok true w) (zE : ∀ w, (Go.sizeOf (ρ.t 24)).run P w = .ok k w)
    {enc : α → List Value} (hk : ∀ x, (enc x).length = k) (h1 : ∀ x, ∀ v ∈ enc x, v.oneCell' = true) {cf : α → α → Int} (hO : SWO (ltOf cf)) (g : Nat) (eg : ∀ args w, (callFunc g args).run P w = .ok (.enter g args) w)
    (hcmp : ∀ (x y : α) (W : World), Calls P g #[.agg (enc x).toArray, .agg (enc y).toArray] W fun e w' => e = .returned (.int .i64 (cf x y)) ∧ ∃ q os, w' = grow (W.drewN q) os)
    (b e n c : Nat) (xs : List α) (hn : n = xs.length) (hsz : n < 4611686018427387904) (w : World) (M I : BS) (S : List Asn) (F : List Fact) (H : Hp ⟨w, M, I⟩ (row e k (.slice (some ⟨b, 0, none⟩) n c) n (flatL enc xs) :: S) F w) :
    Ctr P g0 [.slice (some ⟨b, 0, none⟩) n c, .func (.func g) #[] #[]] w M I (fun _ : List α => .tuple #[]) (fun l => l.Perm xs ∧ l.Pairwise fun x y => ¬ cf y x < 0) (fun l => row e k (.slice (some ⟨b, 0, none⟩) n c) n (flatL enc l) :: S) (fun _ => F) := by
  have hd : n = xs.toArray.size := by simpa using hn
  obtain ⟨hH, hb⟩ := H.holdsK (f := enc) hk (d := xs.toArray) hd
  have hC := AnyQ.slices_SortFunc L k aE zE enc hk h1 cf hO g #[] b 0 c xs.toArray w eg (fun m os dk hdk x y => hcmp x y _) hH hb (by omega)
  rw [e0, ← hd] at hC
  refine Ctr.of_calls hc0 (hC.mono fun e2 w' hh => ?_)
  obtain ⟨he, d', m, os, hp, hs, hw⟩ := hh
  rw [hd] at hp
  have h3 : d'.size = n := by rw [hp.1, ← hd]
  refine ⟨d'.toList, he, ⟨perm_of hp, sorted_of h3.symm hs⟩, ?_⟩
  rw [hw]
  exact H.sorted hk h3.symm
end Go.Wk
namespace Go.Proofs
open Go.Shelf
def Tryz.sortEn_ren : Go.Shelf.Ren := ⟨fun | 6 => 44 | 15 => 60 | 14 => 72 | 28 => 91 | 29 => 92 | 20 => 96 | 21 => 97 | 22 => 98 | 23 => 99 | 24 => 100 | 25 => 101 | 26 => 102 | 27 => 103 | 46 => 113 | 47 => 109 | 48 => 110 | 49 => 114 | 50 => 115 | 57 => 126 | n => n, fun | 22 => 54 | 24 => 39 | 25 => 115 | 3 => 3 | 39 => 136 | 0 => 0 | 53 => 23 | 55 => 78 | 4 => 4 | 46 => 167 | 45 => 166 | 50 => 101 | 5 => 5 | 9 => 9 | 66 => 198 | 70 => 202 | 76 => 212 | 77 => 213 | n => n, fun | n => n⟩
theorem Tryz.sortEn : Go.Proofs.SlLaysF0.n6 Tryz.prog Tryz.sortEn_ren := {
  mixed := by kernel_rfl
  f6 := ⟨Tryz.f44.name, by decide, Tryz.func44.trans (congrArg some (by kernel_rfl))⟩
  f14 := ⟨Tryz.f72.name, by decide, Tryz.func72.trans (congrArg some (by kernel_rfl))⟩
  f15 := Tryz.func60.trans (congrArg some (by kernel_rfl))
  f20 := ⟨Tryz.f96.name, by decide, Tryz.func96.trans (congrArg some (by kernel_rfl))⟩
  f21 := ⟨Tryz.f97.name, by decide, Tryz.func97.trans (congrArg some (by kernel_rfl))⟩
  f22 := ⟨Tryz.f98.name, by decide, Tryz.func98.trans (congrArg some (by kernel_rfl))⟩
  f23 := ⟨Tryz.f99.name, by decide, Tryz.func99.trans (congrArg some (by kernel_rfl))⟩
  f24 := ⟨Tryz.f100.name, by decide, Tryz.func100.trans (congrArg some (by kernel_rfl))⟩
  f25 := ⟨Tryz.f101.name, by decide, Tryz.func101.trans (congrArg some (by kernel_rfl))⟩
  f26 := ⟨Tryz.f102.name, by decide, Tryz.func102.trans (congrArg some (by kernel_rfl))⟩
  f27 := ⟨Tryz.f103.name, by decide, Tryz.func103.trans (congrArg some (by kernel_rfl))⟩
  f28 := Tryz.func91.trans (congrArg some (by kernel_rfl))
  f29 := Tryz.func92.trans (congrArg some (by kernel_rfl))
  f46 := ⟨Tryz.f113.name, by decide, Tryz.func113.trans (congrArg some (by kernel_rfl))⟩
  f47 := Tryz.func109.trans (congrArg some (by kernel_rfl))
  f48 := Tryz.func110.trans (congrArg some (by kernel_rfl))
  f49 := ⟨Tryz.f114.name, by decide, Tryz.func114.trans (congrArg some (by kernel_rfl))⟩
  f50 := ⟨Tryz.f115.name, by decide, Tryz.func115.trans (congrArg some (by kernel_rfl))⟩
  f57 := ⟨Tryz.f126.name, by decide, Tryz.func126.trans (congrArg some (by kernel_rfl))⟩
  t0 := Tryz.underlying0
  a0 := Tryz.isAgg0
  z0 := Tryz.sizeOf0
  v0 := Tryz.zeroValue0
  t3 := Tryz.underlying3
  a3 := Tryz.isAgg3
  z3 := Tryz.sizeOf3
  v3 := Tryz.zeroValue3
  t4 := Tryz.underlying4
  a4 := Tryz.isAgg4
  z4 := Tryz.sizeOf4
  v4 := Tryz.zeroValue4
  t5 := Tryz.underlying5
  a5 := Tryz.isAgg5
  z5 := Tryz.sizeOf5
  v5 := Tryz.zeroValue5
  t9 := Tryz.underlying9
  a9 := Tryz.isAgg9
  z9 := Tryz.sizeOf9
  v9 := Tryz.zeroValue9
  t22 := Tryz.underlying54
  a22 := Tryz.isAgg54
  z22 := Tryz.sizeOf54
  v22 := Tryz.zeroValue54
  t25 := Tryz.underlying115
  a25 := Tryz.isAgg115
  z25 := Tryz.sizeOf115
  v25 := Tryz.zeroValue115
  t39 := Tryz.underlying136
  a39 := Tryz.isAgg136
  z39 := Tryz.sizeOf136
  v39 := Tryz.zeroValue136
  t45 := Tryz.underlying166
  a45 := Tryz.isAgg166
  z45 := Tryz.sizeOf166
  v45 := Tryz.zeroValue166
  t46 := Tryz.underlying167
  a46 := Tryz.isAgg167
  z46 := Tryz.sizeOf167
  v46 := Tryz.zeroValue167
  t50 := Tryz.underlying101
  a50 := Tryz.isAgg101
  z50 := Tryz.sizeOf101
  v50 := Tryz.zeroValue101
  t53 := Tryz.underlying23
  a53 := Tryz.isAgg23
  z53 := Tryz.sizeOf23
  v53 := Tryz.zeroValue23
  t55 := Tryz.underlying78
  a55 := Tryz.isAgg78
  z55 := Tryz.sizeOf78
  v55 := Tryz.zeroValue78
  t66 := Tryz.underlying198
  a66 := Tryz.isAgg198
  z66 := Tryz.sizeOf198
  v66 := Tryz.zeroValue198
  t70 := Tryz.underlying202
  a70 := Tryz.isAgg202
  z70 := Tryz.sizeOf202
  v70 := Tryz.zeroValue202
  t76 := Tryz.underlying212
  a76 := Tryz.isAgg212
  z76 := Tryz.sizeOf212
  v76 := Tryz.zeroValue212
  t77 := Tryz.underlying213
  a77 := Tryz.isAgg213
  z77 := Tryz.sizeOf213
  v77 := Tryz.zeroValue213 }
end Go.Proofs
set_option linter.unusedVariables false
namespace Go.Proofs.YtfemfomgmopibaaGreatDoor
open Go Go.Proofs Go.Wk
/-- An entry that was posted. -/
structure En where
  k : Key
  s : SV
  ls : List Leg
def enC (x : En) : List Value := [.int .u32 x.k.loan, .int .i32 x.k.day, .int .u8 x.k.kind, .int .u32 x.k.seq, .slice x.s.A x.s.n x.s.c]
@[reducible] def ensC (xs : List En) : List Value := flatL enC xs
def kl (e : En) : Key × List Leg := (e.k, e.ls)
def EnF (xs : List En) : Fact where
  holds w I := ∀ x, x ∈ xs → (Sl legR (.slice x.s.A x.s.n x.s.c) x.ls).holds w I
  mono := fun h hI hw x hx => (Sl legR _ _).mono (h x hx) hI hw
theorem hpEnNil {B : Base} {S : List Asn} {F : List Fact} {w : World} (H : Hp B S F w) : Hp B S (EnF [] :: F) w := H.facts fun I ha f hf => by
  rcases List.mem_cons.1 hf with rfl | hf
  · intro x hx; cases hx
  · exact ha f hf
structure Hd where
  A : Option Addr
  c : Nat
  es : List En
theorem enC_len (x : En) : (enC x).length = 5 := rfl
@[reducible] def enV (x : En) : Value := .agg #[.int .u32 x.k.loan, .int .i32 x.k.day, .int .u8 x.k.kind, .int .u32 x.k.seq, .slice x.s.A x.s.n x.s.c]
def kLt (a b : Key) : Prop := a.loan < b.loan ∨ (a.loan = b.loan ∧ (a.day < b.day ∨ (a.day = b.day ∧ (a.kind < b.kind ∨ (a.kind = b.kind ∧ a.seq < b.seq)))))
theorem lessB_iff {a b : Key} : lessB a b = true ↔ kLt a b := by
  obtain ⟨a1, a2, a3, a4⟩ := a
  obtain ⟨b1, b2, b3, b4⟩ := b
  have c0 : ∀ {x y : Int}, x = y → cmpI x y = 0 := fun h => by unfold cmpI; rw [if_neg (by omega), if_neg (by omega)]
  have c1 : ∀ {x y : Int}, x < y → cmpI x y = -1 := fun h => by unfold cmpI; rw [if_pos h]
  have c2 : ∀ {x y : Int}, y < x → cmpI x y = 1 := fun h => by unfold cmpI; rw [if_neg (by omega), if_pos h]
  unfold lessB kLt
  rw [decide_eq_true_eq]
  simp only
  rcases Int.lt_trichotomy a1 b1 with h | h | h
  · rw [c1 h]; simp [orL, h]
  · rcases Int.lt_trichotomy a2 b2 with h2 | h2 | h2
    · rw [c0 h, c1 h2]; simp [orL, h, h2]
    · rcases Int.lt_trichotomy a3 b3 with h3 | h3 | h3
      · rw [c0 h, c0 h2, c1 h3]; simp [orL, h, h2, h3]
      · rcases Int.lt_trichotomy a4 b4 with h4 | h4 | h4
        · rw [c0 h, c0 h2, c0 h3, c1 h4]; simp [orL, h, h2, h3, h4]
        · rw [c0 h, c0 h2, c0 h3, c0 h4]; simp [orL, h, h2, h3, h4]
        · rw [c0 h, c0 h2, c0 h3, c2 h4]; simp [orL, h, h2, h3]; omega
      · rw [c0 h, c0 h2, c2 h3]; simp [orL, h, h2]; omega
    · rw [c0 h, c2 h2]; simp [orL, h]; omega
  · rw [c2 h]; simp [orL]; omega
def leE (a b : En) : Prop := ¬ kLt b.k a.k
def srtE (l : List En) : Prop := l.Pairwise leE
/-- What the comparer answers. -/
def cmpE (a b : En) : Int := if lessB a.k b.k = true then -1 else 1
theorem cmpE_lt {a b : En} (h : cmpE a b < 0) : lessB a.k b.k = true := by
  unfold cmpE at h
  split at h
  · assumption
  · omega
theorem cmpA [Wk.Mode] (a b : En) : CB 45 [enV a, enV b] (.int .i64 (cmpE a b)) := by
  intro w M I H
  refine Exe.of_ev tok Tryz.call45 Tryz.func45 rfl rfl rfl ?_
  refine box_as H (enC a) rfl fun x w1 H1 => ?_
  refine box_as H1 (enC b) rfl fun y w2 H2 => ?_
  refine load_rule tok H2 (v := keyV a.k) rfl ?_
  refine load_rule tok H2 (v := keyV b.k) rfl ?_
  refine call_rule H2 (fun M I _ h => less a.k b.k _ M I h) fun _ w3 _ H3 => ?_
  refine br (fun q => ?_) (fun q => ?_)
  · refine Exists.intro () (And.intro (congrArg (Value.int .i64) ?_) (And.intro trivial (H3.dropAll)))
    unfold cmpE
    rw [if_pos q]
  · refine Exists.intro () (And.intro (congrArg (Value.int .i64) ?_) (And.intro trivial (H3.dropAll)))
    unfold cmpE
    rw [if_neg (by rw [q]; decide)]
theorem cmpE_iff {a b : En} : cmpE a b < 0 ↔ kLt a.k b.k := by
  rw [← lessB_iff]
  refine ⟨cmpE_lt, fun h => ?_⟩
  unfold cmpE
  rw [if_pos h]
  decide
theorem swoE : Sort.SWO (ltOf cmpE) where
  irrefl x := by
    show decide (cmpE x x < 0) = false
    rw [decide_eq_false_iff_not, cmpE_iff]
    unfold kLt
    omega
  trans x y z h1 h2 := by
    have h1 : decide (cmpE x y < 0) = true := h1
    have h2 : decide (cmpE y z < 0) = true := h2
    show decide (cmpE x z < 0) = true
    rw [decide_eq_true_eq, cmpE_iff] at *
    unfold kLt at *
    omega
  ntrans x y z h1 h2 := by
    have h1 : decide (cmpE x y < 0) = false := h1
    have h2 : decide (cmpE y z < 0) = false := h2
    show decide (cmpE x z < 0) = false
    rw [decide_eq_false_iff_not, cmpE_iff] at *
    unfold kLt at *
    omega
/-- A comparer of entries, in the form that the library's sort asks for. -/
theorem row_at {w : World} {B : Base} {S S' : List Asn} {F : List Fact} {A : Option Addr} {e sz n c : Nat} {cs : List Value} (H : Hp B S F w) [hp : TakeR S (.slice A n c) e sz n cs S'] (h : n ≠ 0) : ∃ b, A = some ⟨b, 0, none⟩ := by
  obtain ⟨fa, hfa⟩ := Hp.own (A := row e sz (.slice A n c) n cs) (S' := S') (hp := ⟨hp.perm⟩) H
  obtain ⟨A', c', e1, _, _, hb⟩ := row_shape hfa
  injection e1 with e1 e2 e3
  rw [e1]
  exact hb h
def CmpG (g : Nat) : Prop := (∀ z w, (callFunc g z).run Tryz.prog w = .ok (.enter g z) w) ∧ ∀ (a b : En) (W : World), Calls Tryz.prog g #[.agg (enC a).toArray, .agg (enC b).toArray] W fun e w' => e = .returned (.int .i64 (cmpE a b)) ∧ ∃ q os, w' = Sort.grow (W.drewN q) os
theorem cmpGA : CmpG 45 := ⟨Tryz.call45, fun a b W => (grown_of (@cmpA Mode.exact a b W _ _ (hpNone W))).mono fun _ _ ⟨_, h1, _, h2⟩ => ⟨h1, h2⟩⟩
instance : Inhabited En := ⟨⟨⟨0, 0, 0, 0⟩, ⟨none, 0, 0⟩, []⟩⟩
theorem enC_1 (x : En) : ∀ u ∈ enC x, u.oneCell' = true := by
  intro u h
  simp only [enC, List.mem_cons, List.not_mem_nil, or_false] at h
  rcases h with rfl | rfl | rfl | rfl | rfl <;> rfl
theorem sortEnt (G : Nat) (hc : CmpG G) (g n c : Nat) (hn : n ≤ 1000000) (ls : List En) (hl : ls.length = n) (w : World) (M I : BS) (H : Hp ⟨w, M, I⟩ [row 39 5 (.slice (some ⟨g, 0, none⟩) n c) n (ensC ls)] [] w) :
    Ctr Tryz.prog 44 [.slice (some ⟨g, 0, none⟩) n c, .func (.func G) #[] #[]] w M I (fun _ : List En => .tuple #[]) (fun l => l.Perm ls ∧ srtE l) (fun l => [row 39 5 (.slice (some ⟨g, 0, none⟩) n c) n (ensC l)]) (fun _ => []) :=
  (sortRow Tryz.sortEn rfl Tryz.call44 5 Tryz.isAgg39 Tryz.sizeOf39 enC_len enC_1 swoE G hc.1 hc.2 g 39 n c ls hl.symm (by omega) w M I [] [] H).imp fun l w' hφ h => ⟨l, rfl, ⟨hφ.1, hφ.2.imp fun {a b} q => fun hk => q (cmpE_iff.2 hk)⟩, h⟩
theorem insEntNil (G : Nat) : CB 96 [.slice none 0 0, .int .i64 0, .int .i64 0, .func (.func G) #[] #[]] (.tuple #[]) := by
  intro w M I H
  refine Exe.of_ev tok Tryz.call96 Tryz.func96 rfl rfl rfl ?_
  refine loop_rule tok (σ := Unit) 9007199254737664 (fun s => [(8, .int .i64 1)]) (fun _ w' => Hp ⟨w, M, I⟩ [] [] w') (fun _ => 0) () rfl rfl ⟨rfl, trivial⟩ H ?_
  rintro ⟨⟩ j0 w1 H1
  exact Exists.intro () (And.intro rfl (And.intro trivial H1))
theorem pdqEntNil (G : Nat) (z : Int) : CB 72 [.slice none 0 0, .int .i64 0, .int .i64 0, .int .i64 z, .func (.func G) #[] #[]] (.tuple #[]) := by
  intro w M I H
  refine Exe.of_ev tok Tryz.call72 Tryz.func72 rfl rfl rfl ?_
  refine loop_rule tok (σ := Unit) 356811923176489970264571492362373784095685646 (fun _ => [(1, .int .i64 0), (2, .int .i64 0)]) (fun _ w' => Hp ⟨w, M, I⟩ [] [] w') (fun _ => 0) () rfl rfl ⟨rfl, rfl, trivial⟩ H ?_
  rintro ⟨⟩ j w1 H1
  refine call_rule H1 (fun M I _ h => insEntNil G _ M I h) fun l w2 hφ H2 => ?_
  exact Exists.intro () (And.intro rfl (And.intro trivial H2))
theorem sortEntNil (G : Nat) : CB 44 [.slice none 0 0, .func (.func G) #[] #[]] (.tuple #[]) := by
  intro w M I H
  refine Exe.of_ev tok Tryz.call44 Tryz.func44 rfl rfl rfl ?_
  refine call_rule H (fun M I _ h => len_ 0 (by omega) (by omega) _ M I h) fun z w1 _ H1 => ?_
  refine call_rule H1 (fun M I _ h => pdqEntNil G z _ M I h) fun l w2 hφ H2 => ?_
  exact Exists.intro () (And.intro rfl (And.intro trivial H2))
set_option maxRecDepth 20000 in
theorem sortHd (G : Nat) (hc : CmpG G) (h : Hd) (h12 : h.es.length ≤ 1000000) (w : World) (M I : BS) (H : Hp ⟨w, M, I⟩ [row 39 5 (.slice h.A h.es.length h.c) h.es.length (ensC h.es)] [] w) :
    Ctr Tryz.prog 44 [.slice h.A h.es.length h.c, .func (.func G) #[] #[]] w M I (fun _ : List En => .tuple #[]) (fun l => l.Perm h.es ∧ srtE l) (fun l => [row 39 5 (.slice h.A h.es.length h.c) h.es.length (ensC l)]) (fun _ => []) := by
  obtain ⟨A, c, es⟩ := h
  simp only at h12 H ⊢
  obtain ⟨fa, ha⟩ := Hp.own (A := row 39 5 (.slice A es.length c) es.length (ensC es)) H
  rcases ha.1.2 with ⟨h1, h2⟩ | ⟨g, cap, cur, h1, _⟩
  · injection h1 with e1 e2 e3
    subst e1 e3
    have he : es = [] := List.eq_nil_of_length_eq_zero e2
    subst he
    exact (Ctr.frame (A0 := []) (G0 := []) H fun M I _ h => sortEntNil G _ M I h).imp fun _ w' _ h => ⟨[], rfl, ⟨List.Perm.refl _, List.Pairwise.nil⟩, h⟩
  · injection h1 with e1 e2 e3
    subst e1 e3
    exact sortEnt G hc g es.length c h12 es rfl w M I H
/-- The entry of a key that is live. -/
def entAt (d : Led) (p : Key × Int) : Option (Key × List Leg) := (d.lns[p.2.toNat]?).map fun x => (p.1, x.ls)
def liveOn (loan : Int) (d : Led) (m : List (Key × Int)) : List (Key × List Leg) := (m.filter fun p => decide (p.1.loan = loan)).filterMap (entAt d)
def liveOf (loan : Int) (d : Led) : List (Key × List Leg) := liveOn loan d d.live
theorem liveOn_perm {loan : Int} {d : Led} {a b : List (Key × Int)} (h : a.Perm b) : (liveOn loan d a).Perm (liveOn loan d b) := (h.filter _).filterMap _
theorem liveOn_yes {loan : Int} {d : Led} {m : List (Key × Int)} {p : Key × Int} {x : Ln} (h1 : p.1.loan = loan) (h2 : d.lns[p.2.toNat]? = some x) : liveOn loan d (m ++ [p]) = liveOn loan d m ++ [(p.1, x.ls)] := by
  unfold liveOn
  rw [List.filter_append, List.filterMap_append]
  have e : List.filter (fun q : Key × Int => decide (q.1.loan = loan)) [p] = [p] := by simp [h1]
  rw [e]
  simp [entAt, h2]
theorem liveOn_no {loan : Int} {d : Led} {m : List (Key × Int)} {p : Key × Int} (h1 : p.1.loan ≠ loan) : liveOn loan d (m ++ [p]) = liveOn loan d m := by
  unfold liveOn
  rw [List.filter_append, List.filterMap_append]
  have e : List.filter (fun q : Key × Int => decide (q.1.loan = loan)) [p] = [] := by simp [h1]
  rw [e]
  simp
theorem live_at {d : Led} (hI : Inv d) {p : Key × Int} (hp : p ∈ d.live) : 0 ≤ p.2 ∧ ∃ x, d.lns[p.2.toNat]? = some x ∧ x.k = p.1 ∧ x.of = 0 := by
  have h1 := lk_of_mem hI.nd (show (p.1, p.2) ∈ d.live from hp)
  have h2 := hI.live p.1
  rw [h1] at h2
  split at h2
  · rename_i h0
    have e := Option.some.inj h2
    obtain ⟨x, q1, q2, q3⟩ := hI.at_ p.1 h0
    rw [← e] at q1 h0
    exact ⟨h0, x, q1, q2, q3⟩
  · cases h2
theorem enF_snoc {B : Base} {S : List Asn} {F : List Fact} {w : World} {es : List En} {k : Key} {sv : SV} {ls : List Leg} (H : Hp B S (Sl legR (.slice sv.A sv.n sv.c) ls :: EnF es :: F) w) : Hp B S (EnF (es ++ [⟨k, sv, ls⟩]) :: F) w := H.facts fun I ha f hf => by
  rcases List.mem_cons.1 hf with rfl | hf
  · intro z hz
    rcases List.mem_append.1 hz with hz | hz
    · exact ha (EnF es) (List.mem_cons_of_mem _ List.mem_cons_self) z hz
    · rw [List.mem_singleton] at hz
      subst hz
      exact ha _ List.mem_cons_self
  · exact ha f (List.mem_cons_of_mem _ (List.mem_cons_of_mem _ hf))
theorem enF_perm {B : Base} {S : List Asn} {F : List Fact} {w : World} {es l : List En} (hp : l.Perm es) (H : Hp B S (EnF es :: F) w) : Hp B S (EnF l :: F) w := H.facts fun I ha f hf => by
  rcases List.mem_cons.1 hf with rfl | hf
  · intro z hz
    exact ha (EnF es) List.mem_cons_self z (hp.mem_iff.1 hz)
  · exact ha f (List.mem_cons_of_mem _ hf)
structure RS where
  lf : List (Key × Int)
  cur : Option (Key × Int)
  dn : List (Key × Int)
  h : Hd
set_option maxHeartbeats 2000000 in
set_option maxRecDepth 20000 in
theorem loanL (l m1 m2 : Nat) (s : SV) (d : Led) (hI : Inv d) (hd : d.lns.length ≤ 100000) (hsn : s.n = d.lns.length) (loan : Int) (w : World) (M I : BS)
    (H : Hp ⟨w, M, I⟩ [blk l [.slice s.A s.n s.c, .map (some m1), .map (some m2)] 85, row 69 6 (.slice s.A s.n s.c) s.n (lnsC d.lns), mapO m1 keyV iV d.live] [LnF d.lns] w) :
    Ctr Tryz.prog 19 [.pointer (some ⟨l, 0, none⟩), .int .u32 loan] w M I (fun h : Hd => .slice h.A h.es.length h.c) (fun h => (h.es.map kl).Perm (liveOf loan d) ∧ srtE h.es)
      (fun h => [blk l [.slice s.A s.n s.c, .map (some m1), .map (some m2)] 85, row 69 6 (.slice s.A s.n s.c) s.n (lnsC d.lns), mapO m1 keyV iV d.live, row 39 5 (.slice h.A h.es.length h.c) h.es.length (ensC h.es)]) (fun h => [EnF h.es]) := by
  have hcnt := hI.cnt
  refine Exe.of_ev tok Tryz.call19 Tryz.func19 rfl rfl rfl ?_
  refine load_rule tok H (v := .map (some m1)) rfl ?_
  refine range_rule (n := m1) tok H rfl fun it w1 H1 => ?_
  have H1 : Hp ⟨w, M, I⟩ [rngO m1 it keyV iV d.live d.live none, row 39 5 (.slice none 0 0) 0 [], blk l [.slice s.A s.n s.c, .map (some m1), .map (some m2)] 85, row 69 6 (.slice s.A s.n s.c) s.n (lnsC d.lns)] [EnF [], LnF d.lns] w1 := Hp.keep (hpEnNil (Hp.nil H1 39 5))
  refine loop_out tok (σ := RS) (τ := Hd) 68719444192 0 (fun r => [(5, .slice r.h.A r.h.es.length r.h.c)])
    (fun r w' => (r.dn ++ r.lf).Perm d.live ∧ r.h.es.map kl = liveOn loan d r.dn ∧ Hp ⟨w, M, I⟩ [rngO m1 it keyV iV d.live r.lf r.cur, row 39 5 (.slice r.h.A r.h.es.length r.h.c) r.h.es.length (ensC r.h.es), blk l [.slice s.A s.n s.c, .map (some m1), .map (some m2)] 85, row 69 6 (.slice s.A s.n s.c) s.n (lnsC d.lns)] [EnF r.h.es, LnF d.lns] w') (fun r => r.lf.length) ⟨d.live, none, [], ⟨none, 0, []⟩⟩
    (fun h => [(5, .slice h.A h.es.length h.c)]) (fun h w' => (h.es.map kl).Perm (liveOf loan d) ∧ Hp ⟨w, M, I⟩ [mapO m1 keyV iV d.live, row 39 5 (.slice h.A h.es.length h.c) h.es.length (ensC h.es), blk l [.slice s.A s.n s.c, .map (some m1), .map (some m2)] 85, row 69 6 (.slice s.A s.n s.c) s.n (lnsC d.lns)] [EnF h.es] w') rfl rfl ⟨rfl, trivial⟩ ⟨List.Perm.refl _, rfl, H1⟩ ?_ ?_
  · intro r j w2 hW
    have h1 := hW.1
    have h2 := hW.2.1
    have H2 := hW.2.2
    have hel : r.h.es.length ≤ 100000 := by
      have e1 := congrArg List.length h2
      rw [List.length_map] at e1
      have e2 : (liveOn loan d r.dn).length ≤ r.dn.length := by
        unfold liveOn
        exact Nat.le_trans (List.length_filterMap_le _ _) (List.length_filter_le _ _)
      have e3 := h1.length_eq
      rw [List.length_append] at e3
      omega
    refine next_rule (n := m1) H2 (fun hl => ?_) fun a p b w3 hl H3 => ?_
    · have H3 : Hp ⟨w, M, I⟩ [mapO m1 keyV iV d.live, row 39 5 (.slice r.h.A r.h.es.length r.h.c) r.h.es.length (ensC r.h.es), blk l [.slice s.A s.n s.c, .map (some m1), .map (some m2)] 85, row 69 6 (.slice s.A s.n s.c) s.n (lnsC d.lns)] [EnF r.h.es] w2 := Hp.keep (H2.rngBack (n := m1) (g := it))
      refine Exists.intro r.h (And.intro ⟨rfl, trivial⟩ ⟨?_, H3⟩)
      rw [h2]
      rw [hl, List.append_nil] at h1
      exact liveOn_perm h1
    · have hpm : p ∈ d.live := h1.mem_iff.1 (by rw [hl]; simp)
      have hla := live_at hI hpm
      have h3 : (r.dn ++ [p] ++ (a ++ b)).Perm d.live := by
        refine List.Perm.trans ?_ h1
        rw [hl, List.append_assoc]
        exact List.Perm.append_left _ (by simpa using (List.perm_middle (a := p) (l₁ := a) (l₂ := b)).symm)
      have hlen : (a ++ b).length < r.lf.length := by
        rw [hl, List.length_append, List.length_append, List.length_cons]
        omega
      refine entry_rule (n := m1) H3 ?_
      refine alloc_as tok H3 [.int .u32 0, .int .i32 0, .int .u8 0, .int .u32 0] rfl rfl rfl fun t w4 H4 => ?_
      refine store_as tok H4 (keyC p.1) rfl rfl rfl rfl rfl fun w5 H5 => ?_
      refine load_rule tok H5 (v := .int .u32 p.1.loan) rfl ?_
      refine br (fun q => ?_) (fun q => ?_)
      · have q : p.1.loan = loan := eq_of_beq q
        refine Exists.elim hla.2 fun x hx => ?_
        have hx1 := hx.1
        have hx2 := hx.2.1
        have hi0 := hla.1
        have hxl := (List.getElem?_eq_some_iff.1 hx1).1
        have hi1 : p.2 < (s.n : Int) := by omega
        have hok := hI.ok x (List.mem_of_getElem? hx1)
        have hxs := (right_day hok.2.2.1).2.1
        have H5' := Hp.lnAt H5 (xs := d.lns) (List.mem_of_getElem? hx1)
        refine load_rule tok H5' (v := .slice s.A s.n s.c) rfl ?_
        refine Exists.elim (row_at (A := s.A) (n := s.n) (c := s.c) H5' (by omega)) fun g hA => ?_
        refine idx_ownA tok hA rfl rfl hi0 hi1 ?_
        refine row_ldA (A := s.A) (n := s.n) (c := s.c) tok H5' (.agg #[.int .u32 x.k.loan, .int .i32 x.k.day, .int .u8 x.k.kind, .int .u32 x.k.seq, .slice x.s.A x.s.n x.s.c]) hA (lns_get hx1) ?_
        refine call_rule H5' (fun M I h0 h => copied x.k x.s.A x.s.n x.s.c x.ls (by omega) _ M I (h0 rfl) h) fun sv w6 _ H6 => ?_
        refine slice_as tok H6 (enC ⟨x.k, sv, x.ls⟩) rfl rfl rfl rfl rfl rfl fun g2 w7 H7 => ?_
        refine append_rule (v := .slice r.h.A r.h.es.length r.h.c) (b := g2) (m := 1) (c := 1) tok H7 rfl rfl rfl rfl rfl rfl rfl rfl (by show (r.h.es.length + 1) * 40 ≤ _; omega) (by omega) fun A2 c2 w8 H8 => ?_
        have el : ensC r.h.es ++ enC ⟨x.k, sv, x.ls⟩ = ensC (r.h.es ++ [⟨x.k, sv, x.ls⟩]) := (flatL_snoc (f := enC) r.h.es (En.mk x.k sv x.ls)).symm
        have en : r.h.es.length + 1 = (r.h.es ++ [En.mk x.k sv x.ls]).length := by rw [List.length_append]; rfl
        rw [el, en] at H8
        have H9 : Hp ⟨w, M, I⟩ [rngO m1 it keyV iV d.live (a ++ b) (some p), row 39 5 (.slice A2 (r.h.es ++ [En.mk x.k sv x.ls]).length c2) (r.h.es ++ [En.mk x.k sv x.ls]).length (ensC (r.h.es ++ [En.mk x.k sv x.ls])), blk l [.slice s.A s.n s.c, .map (some m1), .map (some m2)] 85, row 69 6 (.slice s.A s.n s.c) s.n (lnsC d.lns)] [Sl legR (.slice sv.A sv.n sv.c) x.ls, EnF r.h.es, LnF d.lns] w8 := Hp.keep H8
        have H9 : Hp ⟨w, M, I⟩ [rngO m1 it keyV iV d.live (a ++ b) (some p), row 39 5 (.slice A2 (r.h.es ++ [En.mk x.k sv x.ls]).length c2) (r.h.es ++ [En.mk x.k sv x.ls]).length (ensC (r.h.es ++ [En.mk x.k sv x.ls])), blk l [.slice s.A s.n s.c, .map (some m1), .map (some m2)] 85, row 69 6 (.slice s.A s.n s.c) s.n (lnsC d.lns)] [EnF (r.h.es ++ [En.mk x.k sv x.ls]), LnF d.lns] w8 := enF_snoc H9
        refine Exists.intro ⟨a ++ b, some p, r.dn ++ [p], ⟨A2, c2, r.h.es ++ [En.mk x.k sv x.ls]⟩⟩ (And.intro ⟨?_, trivial⟩ (And.intro hlen ⟨h3, ?_, H9⟩))
        · show Value.slice A2 (r.h.es.length + 1) c2 = .slice A2 (r.h.es ++ [En.mk x.k sv x.ls]).length c2
          rw [en]
        · show (r.h.es ++ [En.mk x.k sv x.ls]).map kl = _
          rw [List.map_append, h2, liveOn_yes q hx1, ← hx2]
          rfl
      · have q : p.1.loan ≠ loan := ne_of_beq_false q
        refine Exists.intro ⟨a ++ b, some p, r.dn ++ [p], r.h⟩ (And.intro ⟨rfl, trivial⟩ (And.intro hlen ⟨h3, ?_, Hp.keep H5⟩))
        show r.h.es.map kl = _
        rw [h2, liveOn_no q]
  intro h j w2 hW
  have h1 := hW.1
  have H2 := hW.2
  have hle : h.es.length ≤ 1000000 := by
    have e := h1.length_eq
    rw [List.length_map] at e
    have e2 : (liveOf loan d).length ≤ d.live.length := by
      unfold liveOf liveOn
      exact Nat.le_trans (List.length_filterMap_le _ _) (List.length_filter_le _ _)
    omega
  refine call_rule H2 (fun M I _ hh => sortHd 45 cmpGA h hle _ M I hh) fun es w3 hes H3 => ?_
  have e1 : h.es.length = es.length := hes.1.length_eq.symm
  have H4 : Hp ⟨w, M, I⟩ [blk l [.slice s.A s.n s.c, .map (some m1), .map (some m2)] 85, row 69 6 (.slice s.A s.n s.c) s.n (lnsC d.lns), mapO m1 keyV iV d.live, row 39 5 (.slice h.A es.length h.c) es.length (ensC es)] [EnF es] w3 := by
    rw [← e1]
    exact enF_perm hes.1 (Hp.keep H3)
  refine Exists.intro ⟨h.A, h.c, es⟩ (And.intro ?_ (And.intro ⟨(hes.1.map kl).trans h1, hes.2⟩ H4))
  show Value.slice h.A h.es.length h.c = .slice h.A es.length h.c
  rw [e1]
end Go.Proofs.YtfemfomgmopibaaGreatDoor
set_option linter.unusedVariables false
namespace Go.Proofs.YtfemfomgmopibaaGreatDoor
open Go Go.Proofs Go.Wk
def sumLen (d : Led) : List Int → Nat
  | [] => 0
  | a :: r => (liveOf a d).length + sumLen d r
theorem sumLen_app (d : Led) : ∀ (l m : List Int), sumLen d (l ++ m) = sumLen d l + sumLen d m
  | [], m => by show sumLen d m = 0 + sumLen d m; omega
  | a :: r, m => by show (liveOf a d).length + sumLen d (r ++ m) = (liveOf a d).length + sumLen d r + sumLen d m; rw [sumLen_app d r m]; omega
def cntK (a : Int) (m : List (Key × Int)) : Nat := (m.filter fun p => decide (p.1.loan = a)).length
def sumK (m : List (Key × Int)) : List Int → Nat
  | [] => 0
  | a :: r => cntK a m + sumK m r
theorem fm_len {α β : Type} {f : α → Option β} : ∀ {l : List α}, (∀ x, x ∈ l → (f x).isSome = true) → (l.filterMap f).length = l.length
  | [], _ => rfl
  | a :: r, h => by
    have h1 := h a List.mem_cons_self
    cases hf : f a with
    | none => rw [hf] at h1; cases h1
    | some b => rw [List.filterMap_cons_some hf, List.length_cons, List.length_cons, fm_len fun x hx => h x (List.mem_cons_of_mem _ hx)]
theorem live_cnt {d : Led} (hI : Inv d) (a : Int) : (liveOf a d).length = cntK a d.live := by
  unfold liveOf liveOn cntK
  refine fm_len fun p hp => ?_
  obtain ⟨_, x, hx, _⟩ := live_at hI (List.mem_filter.1 hp).1
  unfold entAt
  rw [hx]
  rfl
theorem sumLen_K {d : Led} (hI : Inv d) : ∀ ls, sumLen d ls = sumK d.live ls
  | [] => rfl
  | a :: r => by show _ + sumLen d r = _ + sumK d.live r; rw [live_cnt hI, sumLen_K hI r]
theorem sumK_nil : ∀ ls, sumK [] ls = 0
  | [] => rfl
  | a :: r => by show 0 + sumK [] r = 0; rw [sumK_nil r]
theorem sumK_cons (p : Key × Int) (m : List (Key × Int)) : ∀ {ls : List Int}, ls.Nodup → p.1.loan ∈ ls → sumK (p :: m) ls = sumK m ls + 1
  | [], _, h => by cases h
  | a :: r, hn, h => by
    rw [List.nodup_cons] at hn
    have off : ∀ {rs : List Int}, p.1.loan ∉ rs → sumK (p :: m) rs = sumK m rs := by
      intro rs
      induction rs with
      | nil => intro _; rfl
      | cons b s ih =>
        intro hb
        rw [List.mem_cons, not_or] at hb
        show cntK b (p :: m) + sumK (p :: m) s = cntK b m + sumK m s
        rw [ih hb.2]
        unfold cntK
        rw [List.filter_cons_of_neg (by simp [hb.1])]
    show cntK a (p :: m) + sumK (p :: m) r = cntK a m + sumK m r + 1
    by_cases e : p.1.loan = a
    · rw [off (by rw [e]; exact hn.1)]
      unfold cntK
      rw [List.filter_cons_of_pos (by simp [e]), List.length_cons]
      omega
    · have hr : p.1.loan ∈ r := by
        rcases List.mem_cons.1 h with q | q
        · exact absurd q e
        · exact q
      rw [sumK_cons p m hn.2 hr]
      unfold cntK
      rw [List.filter_cons_of_neg (by simp [e])]
      omega
theorem sumK_all : ∀ (m : List (Key × Int)) {ls : List Int}, ls.Nodup → (∀ q, q ∈ m → q.1.loan ∈ ls) → sumK m ls = m.length
  | [], ls, _, _ => sumK_nil ls
  | p :: m, ls, hn, h => by
    rw [sumK_cons p m hn (h p List.mem_cons_self), sumK_all m hn fun q hq => h q (List.mem_cons_of_mem _ hq)]
    rfl
/-- All loans' live entries together are all. -/
theorem sumLen_all {d : Led} (hI : Inv d) {ls : List Int} (hp : ls.Perm ((cntL (lnLoans d.lns)).map (·.1))) : sumLen d ls = d.live.length := by
  have hn : ls.Nodup := hp.nodup_iff.2 (cnt_nd _ [] List.nodup_nil)
  rw [sumLen_K hI]
  refine sumK_all d.live hn fun q hq => hp.mem_iff.2 ?_
  obtain ⟨x, hx, hxk⟩ := live_loan hI hq
  refine (cnt_keys q.1.loan (lnLoans d.lns) []).2 (.inl ?_)
  rw [← hxk]
  exact List.mem_map.2 ⟨x, hx, rfl⟩
end Go.Proofs.YtfemfomgmopibaaGreatDoor
set_option linter.unusedVariables false
namespace Go.Proofs.YtfemfomgmopibaaGreatDoor
open Go Go.Proofs Go.Wk
theorem sameSelf (k : Key) (ls : List Leg) : sameB k k ls ls = true := by
  unfold sameB
  rw [legsEq_self, eqK_iff.2 rfl]; rfl
theorem lineX (l : Nat) (d : Led) (hI : Inv d) (hd : d.lns.length ≤ 100000) (i : Nat) (x : Ln) (hi : d.lns[i]? = some x) (w : World) (M I : BS) (H : Hp ⟨w, M, I⟩ [ledO l d] [LnF d.lns] w) :
    Ctr Tryz.prog 21 [.pointer (some ⟨l, 0, none⟩), .int .i64 (i : Int)] w M I (fun a : SV => .tuple #[.agg #[.int .u32 x.k.loan, .int .i32 x.k.day, .int .u8 x.k.kind, .int .u32 x.k.seq, .slice a.A a.n a.c, .int .i64 x.of], .bool true]) (fun _ => True) (fun _ => [ledO l d]) (fun a => [Sl legR (.slice a.A a.n a.c) x.ls]) := by
  obtain ⟨m1, m2, s, hs, H1⟩ := ledOpen (l := l) (d := d) H
  have h8 := (right_day (hI.ok x (List.mem_of_getElem? hi)).2.2.1).2.1
  refine (Ctr.frame H1 fun M I _ h => line_ l m1 m2 s d.lns hd hs i x hi (by omega) _ M I h).imp fun a w' _ h => ?_
  exact ⟨a, rfl, trivial, Hp.keep (ledClose (l := l) (m1 := m1) (m2 := m2) (s := s) (d := d) h hs)⟩
theorem loanAll (l : Nat) (d : Led) (hI : Inv d) (hd : d.lns.length ≤ 100000) (loan : Int) (w : World) (M I : BS) (H : Hp ⟨w, M, I⟩ [ledO l d] [LnF d.lns] w) :
    Ctr Tryz.prog 19 [.pointer (some ⟨l, 0, none⟩), .int .u32 loan] w M I (fun h : Hd => .slice h.A h.es.length h.c) (fun h => h.es.length = (liveOf loan d).length) (fun h => [ledO l d]) (fun h => []) := by
  obtain ⟨m1, m2, s, hs, H1⟩ := ledOpen (l := l) (d := d) H
  refine (Ctr.frame H1 fun M I _ h => loanL l m1 m2 s d hI hd hs loan _ M I h).imp fun a w' hφ h => ?_
  refine ⟨a, rfl, ?_, Hp.keep (ledClose (l := l) (m1 := m1) (m2 := m2) (s := s) (d := d) h hs)⟩
  have := hφ.1.length_eq
  rwa [List.length_map] at this
theorem revs_take {xs : List Ln} {i : Nat} {x : Ln} (h : xs[i]? = some x) : revs (xs.take (i + 1)) = revs (xs.take i) + if x.of = 0 then 0 else 1 := by
  rw [List.take_add_one, h, revs_app]
  show revs (xs.take i) + ((if x.of = 0 then 0 else 1) + 0) = _
  omega
theorem revs_le : ∀ xs : List Ln, revs xs ≤ xs.length
  | [] => Nat.le_refl _
  | x :: r => by
    have := revs_le r
    unfold revs
    rw [List.length_cons]
    split <;> omega
theorem sumLen_le {d : Led} (hI : Inv d) : ∀ ls : List Int, sumLen d ls ≤ ls.length * d.live.length
  | [] => by simp [sumLen]
  | a :: r => by
    have h1 : (liveOf a d).length ≤ d.live.length := by rw [live_cnt hI]; exact List.length_filter_le _ _
    have h2 := sumLen_le hI r
    show (liveOf a d).length + sumLen d r ≤ (r.length + 1) * d.live.length
    rw [Nat.add_mul, Nat.one_mul]
    omega
theorem sumLen_take {d : Led} {ls : List Int} {i : Nat} {x : Int} (h : ls[i]? = some x) : sumLen d (ls.take (i + 1)) = sumLen d (ls.take i) + (liveOf x d).length := by
  rw [List.take_add_one, h, sumLen_app]
  rfl
structure KS where
  i : Nat
  d : Led
  xs : List Ln
set_option maxRecDepth 20000 in
set_option maxHeartbeats 40000000 in
theorem keepsW (A : Option Addr) (n c : Nat) (acts : List Act) (A2 : Option Addr) (n2 c2 : Nat) (more : List Act) (w : World) (M I : BS) (H : Hp ⟨w, M, I⟩ [] [Sl actR (.slice A n c) acts, Sl actR (.slice A2 n2 c2) more, Glob 0 errTy] w) :
    Ctr Tryz.prog 5 [.slice A n c, .slice A2 n2 c2] w M I (fun _ : Unit => .bool true) (fun _ => True) (fun _ => []) (fun _ => []) := by
  obtain ⟨hn, hc, hc2⟩ := H.sll (A := A) (n := n) (c := c)
  obtain ⟨hm, hmc, hmc2⟩ := H.sll (A := A2) (n := n2) (c := c2)
  obtain ⟨M', I', h0, hm', hk'⟩ := Hp.call (A := []) (S := []) (G := [Sl actR (.slice A n c) acts, Sl actR (.slice A2 n2 c2) more, Glob 0 errTy]) H fun I ha => ha
  have hM := hm' rfl
  refine Exe.mono ?_ (fun v w' ⟨a, e, _, h⟩ => ⟨a, e, trivial, Hp.keep (hk' [] [] w' h)⟩ : ∀ v w', (∃ a : Unit, v = .bool true ∧ True ∧ Hp ⟨w, M', I'⟩ [] [] w') → _)
  refine Exe.of_ev tok Tryz.call5 Tryz.func5 rfl rfl rfl ?_
  refine call_rule h0 (fun M I h0 h => awake_ _ M I (h0 rfl) h) fun _ w2 _ H2 => ?_
  refine call_rule H2 (fun M I _ h => newX _ M I h) fun l w3 _ H3 => ?_
  refine box_as H3 [.slice none 0 0] rfl fun p w4 H4 => ?_
  have H5 : Hp ⟨w, M', I'⟩ [ledO l ⟨[], [], []⟩, refO p []] [LnF [], LnF [], Sl actR (.slice A n c) acts, Sl actR (.slice A2 n2 c2) more, Glob 0 errTy] w4 := Hp.keep (LnF_nil (LnF_nil (refNew H4)))
  refine loop_out tok (σ := KS) (τ := KS) 35175782154624 0 (fun s => [(33, .int .i64 (s.i : Int))]) (fun s w' => s.i ≤ n ∧ St s.d s.xs s.i 14 ∧ Hp ⟨w, M', I'⟩ [ledO l s.d, refO p s.xs] [LnF s.d.lns, LnF s.xs, Sl actR (.slice A n c) acts, Sl actR (.slice A2 n2 c2) more, Glob 0 errTy] w') (fun s => n - s.i) ⟨0, ⟨[], [], []⟩, []⟩
    (fun _ => []) (fun s w' => St s.d s.xs 14 28 ∧ Hp ⟨w, M', I'⟩ [ledO l s.d, refO p s.xs] [LnF s.d.lns, LnF s.xs, Sl actR (.slice A2 n2 c2) more, Glob 0 errTy] w') rfl rfl ⟨rfl, trivial⟩ ⟨Nat.zero_le _, St.zero 14, H5⟩ ?_ ?_
  · intro s j w5 hW
    have hi := hW.1
    have hS := hW.2.1
    have H := hW.2.2
    refine brd (fun hin => ?_) (fun _ => ?_)
    · have hin' : s.i < n := by omega
      have ew : IntKind.i64.wrap ((s.i : Int) + 1) = ((s.i + 1 : Nat) : Int) := w64 (by omega) (by omega)
      refine idx_rule tok H rfl rfl rfl (by omega) hin fun eb eo x hx H6 => ?_
      refine ldp_rule tok H6 rfl rfl rfl fun q hok H7 => ?_
      refine alloc_as tok H7 actZ rfl rfl rfl fun lb w6 H8 => ?_
      refine store_as tok H8 (actR.cells x q) rfl rfl rfl rfl rfl fun w7 H9 => ?_
      refine brd (fun h10 => ?_) (fun _ => ?_)
      · refine load_rule tok H9 (v := .agg (actR.cells x q).toArray) rfl ?_
        refine call_rule H9 (fun M I _ h => doX l p s.d s.xs hS.bo (by have := hS.few; omega) x.dv x.k hok.1 q.1 q.2.1 q.2.2 x.ls x.raw x.bn hok.2 _ M I h) fun a w8 ha H10 => ?_
        exact Exists.intro ⟨s.i + 1, a.1, a.2⟩ (And.intro ⟨congrArg (Value.int .i64) ew, trivial⟩ (And.intro (by show n - (s.i + 1) < n - s.i; omega) ⟨by show s.i + 1 ≤ n; omega, hS.step (by omega) ha, Hp.keep H10⟩))
      · exact Exists.intro ⟨s.i + 1, s.d, s.xs⟩ (And.intro ⟨congrArg (Value.int .i64) ew, trivial⟩ (And.intro (by show n - (s.i + 1) < n - s.i; omega) ⟨by show s.i + 1 ≤ n; omega, hS.skip, Hp.keep H9⟩))
    · exact Exists.intro s (And.intro trivial ⟨⟨hS.bo, hS.few, by have := hS.few; omega, hS.low⟩, Hp.keep H⟩)
  intro s0 j0 w5 hW0
  have hS0 := hW0.1
  have H6 := hW0.2
  have hf0 := hS0.few
  refine call_rule H6 (fun M I _ h => copyX l s0.d (by omega) _ M I h) fun wl w6 _ H7 => ?_
  have H7 : Hp ⟨w, M', I'⟩ [ledO wl s0.d, ledO l s0.d, refO p s0.xs] [LnF s0.d.lns, LnF s0.d.lns, LnF s0.xs, Sl actR (.slice A2 n2 c2) more, Glob 0 errTy] w6 := Hp.keep H7
  refine loop_out tok (σ := KS) (τ := KS) 2305280059260275712 2 (fun s => [(49, .int .i64 (s.i : Int))]) (fun s w' => s.i ≤ n2 ∧ St s.d s.xs (14 + s.i) 28 ∧ (∃ ys, s.d.lns = s0.d.lns ++ ys) ∧ Hp ⟨w, M', I'⟩ [ledO wl s0.d, ledO l s.d, refO p s.xs] [LnF s0.d.lns, LnF s.d.lns, LnF s.xs, Sl actR (.slice A2 n2 c2) more, Glob 0 errTy] w') (fun s => n2 - s.i) ⟨0, s0.d, s0.xs⟩
    (fun _ => []) (fun s w' => Inv s.d ∧ s.d.lns.length ≤ 28 ∧ (∀ x, x ∈ s.d.lns → x.k.loan < 5) ∧ (∃ ys, s.d.lns = s0.d.lns ++ ys) ∧ Hp ⟨w, M', I'⟩ [ledO wl s0.d, ledO l s.d] [LnF s0.d.lns, LnF s.d.lns] w') rfl rfl ⟨rfl, trivial⟩ ⟨Nat.zero_le _, hS0, ⟨[], by simp⟩, H7⟩ ?_ ?_
  · intro s j w7 hW
    have hi := hW.1
    have hS := hW.2.1
    have hy := hW.2.2.1
    have H := hW.2.2.2
    refine brd (fun hin => ?_) (fun _ => ?_)
    · have hin' : s.i < n2 := by omega
      have ew : IntKind.i64.wrap ((s.i : Int) + 1) = ((s.i + 1 : Nat) : Int) := w64 (by omega) (by omega)
      refine idx_rule tok H rfl rfl rfl (by omega) hin fun eb eo x hx H6 => ?_
      refine ldp_rule tok H6 rfl rfl rfl fun q hok H7 => ?_
      refine alloc_as tok H7 actZ rfl rfl rfl fun lb w8 H8 => ?_
      refine store_as tok H8 (actR.cells x q) rfl rfl rfl rfl rfl fun w9 H9 => ?_
      refine brd (fun h10 => ?_) (fun _ => ?_)
      · refine load_rule tok H9 (v := .agg (actR.cells x q).toArray) rfl ?_
        refine call_rule H9 (fun M I _ h => doX l p s.d s.xs hS.bo (by have := hS.few; omega) x.dv x.k hok.1 q.1 q.2.1 q.2.2 x.ls x.raw x.bn hok.2 _ M I h) fun a wa ha H10 => ?_
        refine Exists.intro ⟨s.i + 1, a.1, a.2⟩ (And.intro ⟨congrArg (Value.int .i64) ew, trivial⟩ (And.intro (by show n2 - (s.i + 1) < n2 - s.i; omega) ⟨by show s.i + 1 ≤ n2; omega, hS.step (by omega) ha, ?_, Hp.keep H10⟩))
        obtain ⟨ys, e1⟩ := hy
        obtain ⟨zs, e2, _⟩ := ha.more
        exact ⟨ys ++ zs, by show a.1.lns = _; rw [e2, e1, List.append_assoc]⟩
      · exact Exists.intro ⟨s.i + 1, s.d, s.xs⟩ (And.intro ⟨congrArg (Value.int .i64) ew, trivial⟩ (And.intro (by show n2 - (s.i + 1) < n2 - s.i; omega) ⟨by show s.i + 1 ≤ n2; omega, hS.skip, hy, Hp.keep H9⟩))
    · exact Exists.intro s (And.intro trivial ⟨hS.bo.inv, hS.few, hS.low, hy, Hp.keep H⟩)
  intro s j1 w7 hW1
  have hI := hW1.1
  have hlen := hW1.2.1
  have hlow := hW1.2.2.1
  have hmore := hW1.2.2.2.1
  have H8 := hW1.2.2.2.2
  refine Exists.elim (show ∃ d0 : Led, d0 = s0.d from ⟨_, rfl⟩) fun d0 ed0 => ?_
  refine Exists.elim (show ∃ d : Led, d = s.d from ⟨_, rfl⟩) fun d ed => ?_
  have hI0 : Inv d0 := by rw [ed0]; exact hS0.bo.inv
  rw [← ed0] at hmore H8 hf0
  rw [← ed] at hI hlen hlow hmore H8
  have hle : d0.lns.length ≤ d.lns.length := by
    obtain ⟨ys, e⟩ := hmore
    rw [e, List.length_append]
    omega
  refine call_rule H8 (fun M I _ h => lenX l d _ M I h) fun _ w8 _ H9 => ?_
  refine call_rule H9 (fun M I _ h => lenX wl d0 _ M I h) fun _ w9 _ H10 => ?_
  refine brd (fun q => absurd q (by omega)) (fun _ => ?_)
  refine call_rule H10 (fun M I _ h => lenX wl d0 _ M I h) fun _ w10 _ H11 => ?_
  have H11 : Hp ⟨w, M', I'⟩ [ledO wl d0, ledO l d] [LnF d0.lns, LnF d.lns] w10 := Hp.keep H11
  refine loop_out tok (σ := Nat) (τ := Unit) 158456324733380770007735201808 4 (fun i => [(68, .int .i64 (i : Int))]) (fun i w' => i ≤ d0.lns.length ∧ Hp ⟨w, M', I'⟩ [ledO wl d0, ledO l d] [LnF d0.lns, LnF d.lns] w') (fun i => d0.lns.length - i) 0
    (fun _ => []) (fun _ w' => Hp ⟨w, M', I'⟩ [ledO wl d0, ledO l d] [LnF d0.lns, LnF d.lns] w') rfl rfl ⟨rfl, trivial⟩ ⟨Nat.zero_le _, H11⟩ ?_ ?_
  · intro i j w11 hW
    have hi := hW.1
    have G := hW.2
    refine brd (fun q => ?_) (fun _ => ?_)
    · have hil : i < d0.lns.length := by omega
      have ew : IntKind.i64.wrap ((i : Int) + 1) = ((i + 1 : Nat) : Int) := w64 (by omega) (by omega)
      refine Exists.elim (⟨_, List.getElem?_eq_getElem hil⟩ : ∃ x, d0.lns[i]? = some x) fun x hx => ?_
      have hx2 : d.lns[i]? = some x := by
        obtain ⟨ys, e⟩ := hmore
        rw [e, List.getElem?_append_left hil]
        exact hx
      refine call_rule G (fun M I _ h => lineX wl d0 hI0 (by omega) i x hx _ M I h) fun a w12 _ G1 => ?_
      refine alloc_as tok G1 [.int .u32 0, .int .i32 0, .int .u8 0, .int .u32 0, .slice none 0 0, .int .i64 0] rfl rfl rfl fun y1 w13 G2 => ?_
      refine store_as tok G2 [.int .u32 x.k.loan, .int .i32 x.k.day, .int .u8 x.k.kind, .int .u32 x.k.seq, .slice a.A a.n a.c, .int .i64 x.of] rfl rfl rfl rfl rfl fun w14 G3 => ?_
      refine call_rule G3 (fun M I _ h => lineX l d hI (by omega) i x hx2 _ M I h) fun b w15 _ G4 => ?_
      refine alloc_as tok G4 [.int .u32 0, .int .i32 0, .int .u8 0, .int .u32 0, .slice none 0 0, .int .i64 0] rfl rfl rfl fun y2 w16 G5 => ?_
      refine store_as tok G5 [.int .u32 x.k.loan, .int .i32 x.k.day, .int .u8 x.k.kind, .int .u32 x.k.seq, .slice b.A b.n b.c, .int .i64 x.of] rfl rfl rfl rfl rfl fun w17 G6 => ?_
      have hna := G6.sll (A := a.A) (n := a.n) (c := a.c) (r := legR) (xs := x.ls)
      have hnb := G6.sll (A := b.A) (n := b.n) (c := b.c) (r := legR) (xs := x.ls)
      have hal : x.ls.length ≤ 9223372036854775807 := Nat.le_trans hna.2.1 hna.2.2
      refine load_rule tok G6 (v := .int .i64 x.of) rfl ?_
      refine load_rule tok G6 (v := .int .i64 x.of) rfl ?_
      have e1 : (!(x.of == x.of)) = false := by simp
      refine br (fun q => absurd (e1.symm.trans q) (by decide)) (fun _ => ?_)
      refine load_rule tok G6 (v := .agg #[.int .u32 x.k.loan, .int .i32 x.k.day, .int .u8 x.k.kind, .int .u32 x.k.seq, .slice a.A a.n a.c]) rfl ?_
      refine load_rule tok G6 (v := .agg #[.int .u32 x.k.loan, .int .i32 x.k.day, .int .u8 x.k.kind, .int .u32 x.k.seq, .slice b.A b.n b.c]) rfl ?_
      refine call_rule G6 (fun M I _ h => same_ x.k x.k a.A b.A a.n a.c b.n b.c x.ls x.ls _ M I h ⟨hna.1, hal⟩ hnb.1) fun _ w18 _ G7 => ?_
      have e2 : (!sameB x.k x.k x.ls x.ls) = false := by rw [sameSelf]; rfl
      refine br (fun q => absurd (e2.symm.trans q) (by decide)) (fun _ => ?_)
      exact Exists.intro (i + 1) (And.intro ⟨congrArg (Value.int .i64) ew, trivial⟩ (And.intro (by show d0.lns.length - (i + 1) < d0.lns.length - i; omega) ⟨by omega, Hp.keep G7⟩))
    · exact Exists.intro () (And.intro trivial G)
  intro _ j2 w11 G
  refine call_rule G (fun M I _ h => lenX l d _ M I h) fun _ w12 _ G1 => ?_
  have G1 : Hp ⟨w, M', I'⟩ [ledO l d] [LnF d.lns] w12 := Hp.keep G1
  refine loop_out tok (σ := Nat) (τ := Unit) 44601490397060612457771322430595974668615696 6 (fun i => [(17, .int .i64 (revs (d.lns.take i) : Int)), (99, .int .i64 (i : Int))]) (fun i w' => i ≤ d.lns.length ∧ Hp ⟨w, M', I'⟩ [ledO l d] [LnF d.lns] w') (fun i => d.lns.length - i) 0
    (fun _ => [(17, .int .i64 (revs d.lns : Int))]) (fun _ w' => Hp ⟨w, M', I'⟩ [ledO l d] [LnF d.lns] w') rfl rfl ⟨rfl, rfl, trivial⟩ ⟨Nat.zero_le _, G1⟩ ?_ ?_
  · intro i j w13 hW
    have hi := hW.1
    have G := hW.2
    refine brd (fun q => ?_) (fun q => ?_)
    · have hil : i < d.lns.length := by omega
      have ew : IntKind.i64.wrap ((i : Int) + 1) = ((i + 1 : Nat) : Int) := w64 (by omega) (by omega)
      refine Exists.elim (⟨_, List.getElem?_eq_getElem hil⟩ : ∃ x, d.lns[i]? = some x) fun x hx => ?_
      have hrt := revs_take hx
      have hrl := revs_le (d.lns.take i)
      rw [List.length_take] at hrl
      have hof := (hI.ok x (List.mem_of_getElem? hx)).1
      refine call_rule G (fun M I _ h => lineX l d hI (by omega) i x hx _ M I h) fun a w14 _ G1 => ?_
      refine alloc_as tok G1 [.int .u32 0, .int .i32 0, .int .u8 0, .int .u32 0, .slice none 0 0, .int .i64 0] rfl rfl rfl fun y1 w15 G2 => ?_
      refine store_as tok G2 [.int .u32 x.k.loan, .int .i32 x.k.day, .int .u8 x.k.kind, .int .u32 x.k.seq, .slice a.A a.n a.c, .int .i64 x.of] rfl rfl rfl rfl rfl fun w16 G3 => ?_
      refine load_rule tok G3 (v := .int .i64 x.of) rfl ?_
      refine brd (fun q1 => ?_) (fun q1 => ?_)
      · have q1 : 0 < x.of := q1
        have hne : x.of ≠ 0 := by omega
        obtain ⟨hle2, hbk⟩ := hI.back i x hx hne
        refine Exists.elim hbk fun y hy => ?_
        rw [if_neg hne] at hrt
        have er : IntKind.i64.wrap ((revs (d.lns.take i) : Int) + 1) = ((revs (d.lns.take (i + 1)) : Nat) : Int) := by rw [w64 (by omega) (by omega)]; omega
        have eo : IntKind.i64.wrap (x.of - 1) = (((x.of - 1).toNat : Nat) : Int) := by rw [w64 (by omega) (by omega)]; omega
        refine load_rule tok G3 (v := .int .i64 x.of) rfl ?_
        have hb := lineX l d hI (by omega) (x.of - 1).toNat y hy.1
        rw [← eo] at hb
        refine call_rule G3 (fun M I _ h => hb _ M I h) fun b w17 _ G4 => ?_
        refine alloc_as tok G4 [.int .u32 0, .int .i32 0, .int .u8 0, .int .u32 0, .slice none 0 0, .int .i64 0] rfl rfl rfl fun y2 w18 G5 => ?_
        refine store_as tok G5 [.int .u32 y.k.loan, .int .i32 y.k.day, .int .u8 y.k.kind, .int .u32 y.k.seq, .slice b.A b.n b.c, .int .i64 y.of] rfl rfl rfl rfl rfl fun w19 G6 => ?_
        refine load_rule tok G6 (v := .int .i64 x.of) rfl ?_
        refine brd (fun q2 => absurd q2 (by rw [eo]; omega)) (fun _ => ?_)
        refine load_rule tok G6 (v := .int .i64 y.of) rfl ?_
        have e1 : (!(y.of == 0)) = false := by rw [hy.2.1]; rfl
        refine br (fun q2 => absurd (e1.symm.trans q2) (by decide)) (fun _ => ?_)
        refine load_rule tok G6 (v := keyV y.k) rfl ?_
        refine load_rule tok G6 (v := keyV x.k) rfl ?_
        refine ne_struct tok (r := eqK y.k x.k) rfl Tryz.eqGuardType26 Tryz.stoodInHeld26 rfl ?_
        have e2 : (!eqK y.k x.k) = false := by rw [hy.2.2, eqK_iff.2 rfl]; rfl
        refine br (fun q2 => absurd (e2.symm.trans q2) (by decide)) (fun _ => ?_)
        exact Exists.intro (i + 1) (And.intro ⟨congrArg (Value.int .i64) er, congrArg (Value.int .i64) ew, trivial⟩ (And.intro (by show d.lns.length - (i + 1) < d.lns.length - i; omega) ⟨by omega, Hp.keep G6⟩))
      · have q1 : ¬ 0 < x.of := q1
        have hz : x.of = 0 := by omega
        rw [if_pos hz, Nat.add_zero] at hrt
        refine Exists.intro (i + 1) (And.intro ⟨?_, congrArg (Value.int .i64) ew, trivial⟩ (And.intro (by show d.lns.length - (i + 1) < d.lns.length - i; omega) ⟨by omega, Hp.keep G3⟩))
        rw [hrt]
        rfl
    · have e : i = d.lns.length := by omega
      refine Exists.intro () (And.intro ⟨?_, trivial⟩ G)
      show Value.int .i64 (revs (d.lns.take i) : Int) = _
      rw [e, List.take_length]
  intro _ j3 w13 G
  have hlo : ∀ y, y ∈ lnLoans d.lns → 0 ≤ y ∧ y < 5 := fun y hy => by
    obtain ⟨x, hx, rfl⟩ := List.mem_map.1 hy
    have := (hI.ok x hx).2.1.1.1
    exact ⟨this, hlow x hx⟩
  have hcnt := hI.cnt
  refine call_rule G (fun M I _ h => loansX l d (by omega) hlo _ M I h) fun a w14 ha G1 => ?_
  have hperm := ha.1
  have han := ha.2.2
  have hal : a.2.length ≤ 5 := by
    have := hperm.length_eq
    rw [List.length_map] at this
    have := cnt_few hlo
    omega
  have hsum : ∀ i, sumLen d (a.2.take i) ≤ 140 := fun i => by
    have h1 := sumLen_le hI (a.2.take i)
    have h2 : (a.2.take i).length ≤ 5 := by rw [List.length_take]; omega
    have h3 : (a.2.take i).length * d.live.length ≤ 5 * 28 := Nat.mul_le_mul h2 (by omega)
    omega
  have G1 : Hp ⟨w, M', I'⟩ [row 23 1 (.slice a.1.A a.1.n a.1.c) a.1.n (u32sC a.2), ledO l d] [LnF d.lns] w14 := Hp.keep G1
  refine loop_out tok (σ := Nat) (τ := Unit) 730394006742274969131577844865779136043912527872 8 (fun i => [(23, .int .i64 (sumLen d (a.2.take i) : Int)), (148, .int .i64 (i : Int))]) (fun i w' => i ≤ a.1.n ∧ Hp ⟨w, M', I'⟩ [row 23 1 (.slice a.1.A a.1.n a.1.c) a.1.n (u32sC a.2), ledO l d] [LnF d.lns] w') (fun i => a.1.n - i) 0
    (fun _ => [(23, .int .i64 (d.live.length : Int))]) (fun _ w' => Hp ⟨w, M', I'⟩ [ledO l d] [LnF d.lns] w') rfl rfl ⟨rfl, rfl, trivial⟩ ⟨Nat.zero_le _, G1⟩ ?_ ?_
  · intro i j w15 hW
    have hi := hW.1
    have G := hW.2
    refine brd (fun q => ?_) (fun q => ?_)
    · have hil : i < a.2.length := by omega
      have ew : IntKind.i64.wrap ((i : Int) + 1) = ((i + 1 : Nat) : Int) := w64 (by omega) (by omega)
      refine Exists.elim (G.rowSome (A := a.1.A) (n := a.1.n) (c := a.1.c) (by omega)) fun b hA => ?_
      refine Exists.elim (⟨_, List.getElem?_eq_getElem hil⟩ : ∃ x, a.2[i]? = some x) fun x hx => ?_
      have hst := sumLen_take (d := d) hx
      have hb1 := hsum i
      have hb2 := hsum (i + 1)
      refine idx_ownA tok hA rfl rfl (by omega) q ?_
      refine row_ldA tok G (A := a.1.A) (n := a.1.n) (c := a.1.c) (.int .u32 x) hA (u32s_get hx) ?_
      refine call_rule G (fun M I _ h => loanAll l d hI (by omega) x _ M I h) fun hd w16 hhd G2 => ?_
      have hhd : hd.es.length = (liveOf x d).length := hhd
      have es : IntKind.i64.wrap ((sumLen d (a.2.take i) : Int) + (hd.es.length : Int)) = ((sumLen d (a.2.take (i + 1)) : Nat) : Int) := by rw [w64 (by omega) (by omega)]; omega
      exact Exists.intro (i + 1) (And.intro ⟨congrArg (Value.int .i64) es, congrArg (Value.int .i64) ew, trivial⟩ (And.intro (by show a.1.n - (i + 1) < a.1.n - i; omega) ⟨by omega, Hp.keep G2⟩))
    · have e : i = a.2.length := by omega
      refine Exists.intro () (And.intro ⟨?_, trivial⟩ (Hp.keep G))
      show Value.int .i64 (sumLen d (a.2.take i) : Int) = _
      rw [e, List.take_length, sumLen_all hI hperm]
  intro _ j4 w15 G
  refine call_rule G (fun M I _ h => lenX l d _ M I h) fun _ w16 _ G1 => ?_
  have hrl := revs_le d.lns
  have ef : IntKind.i64.wrap ((d.lns.length : Int) - IntKind.i64.wrap (2 * (revs d.lns : Int))) = (d.live.length : Int) := by rw [w64 (n := 2 * (revs d.lns : Int)) (by omega) (by omega), w64 (by omega) (by omega)]; omega
  refine Exists.intro () (And.intro (congrArg Value.bool ?_) (And.intro trivial (Hp.keep G1)))
  show ((d.live.length : Int) == IntKind.i64.wrap ((d.lns.length : Int) - IntKind.i64.wrap (2 * (revs d.lns : Int)))) = true
  rw [ef]
  simp
end Go.Proofs.YtfemfomgmopibaaGreatDoor
