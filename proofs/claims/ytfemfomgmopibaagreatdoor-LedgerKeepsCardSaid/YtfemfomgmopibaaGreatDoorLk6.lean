/- Keys, their order, names. -/
import Derived.Test.YtfemfomgmopibaaGreatDoorLk5
namespace Go.Proofs.YtfemfomgmopibaaGreatDoor
open Go Go.Proofs Go.Wk
@[reducible] def CB [Wk.Mode] (g : Nat) (args : List Value) (v : Value) : Prop := ∀ (w : World) (M I : BS), Hp ⟨w, M, I⟩ [] [] w → Ctr Tryz.prog g args w M I (fun _ : Unit => v) (fun _ => True) (fun _ => []) (fun _ => [])
theorem tdr : Tryz.prog.follows .mixedOrders = true := by kernel_rfl
theorem nan5 [Wk.Mode] (a : Int) : CB 61 [.int .u8 a] (.bool false) := by
  intro w M I H
  refine Exe.of_ev tok Tryz.call61 Tryz.func61 rfl rfl rfl ?_
  refine Exists.intro () (And.intro (congrArg Value.bool ?_) (And.intro trivial H))
  simp
theorem nan22 [Wk.Mode] (a : Int) : CB 104 [.int .u32 a] (.bool false) := by
  intro w M I H
  refine Exe.of_ev tok Tryz.call104 Tryz.func104 rfl rfl rfl ?_
  refine Exists.intro () (And.intro (congrArg Value.bool ?_) (And.intro trivial H))
  simp
theorem nan23 [Wk.Mode] (a : Int) : CB 105 [.int .i32 a] (.bool false) := by
  intro w M I H
  refine Exe.of_ev tok Tryz.call105 Tryz.func105 rfl rfl rfl ?_
  refine Exists.intro () (And.intro (congrArg Value.bool ?_) (And.intro trivial H))
  simp
def cmpI (a b : Int) : Int := if a < b then -1 else if b < a then 1 else 0
theorem cmp5 [Wk.Mode] (a b : Int) : CB 36 [.int .u8 a, .int .u8 b] (.int .i64 (cmpI a b)) := by
  intro w M I H
  refine Exe.of_ev tok Tryz.call36 Tryz.func36 rfl rfl rfl ?_
  refine call_rule H (fun M I _ h => nan5 a _ M I h) fun _ w1 _ H1 => ?_
  refine call_rule H1 (fun M I _ h => nan5 b _ M I h) fun _ w2 _ H2 => ?_
  refine brd (fun h => ?_) (fun h => ?_)
  · exact Exists.intro () (And.intro (congrArg (Value.int .i64) (by simp [cmpI, h])) (And.intro trivial H2))
  · refine brd (fun h2 => ?_) (fun h2 => ?_)
    · exact Exists.intro () (And.intro (congrArg (Value.int .i64) (by simp [cmpI, h, h2])) (And.intro trivial H2))
    · exact Exists.intro () (And.intro (congrArg (Value.int .i64) (by simp [cmpI, h, h2])) (And.intro trivial H2))
theorem cmp22 [Wk.Mode] (a b : Int) : CB 74 [.int .u32 a, .int .u32 b] (.int .i64 (cmpI a b)) := by
  intro w M I H
  refine Exe.of_ev tok Tryz.call74 Tryz.func74 rfl rfl rfl ?_
  refine call_rule H (fun M I _ h => nan22 a _ M I h) fun _ w1 _ H1 => ?_
  refine call_rule H1 (fun M I _ h => nan22 b _ M I h) fun _ w2 _ H2 => ?_
  refine brd (fun h => ?_) (fun h => ?_)
  · exact Exists.intro () (And.intro (congrArg (Value.int .i64) (by simp [cmpI, h])) (And.intro trivial H2))
  · refine brd (fun h2 => ?_) (fun h2 => ?_)
    · exact Exists.intro () (And.intro (congrArg (Value.int .i64) (by simp [cmpI, h, h2])) (And.intro trivial H2))
    · exact Exists.intro () (And.intro (congrArg (Value.int .i64) (by simp [cmpI, h, h2])) (And.intro trivial H2))
theorem cmp23 [Wk.Mode] (a b : Int) : CB 75 [.int .i32 a, .int .i32 b] (.int .i64 (cmpI a b)) := by
  intro w M I H
  refine Exe.of_ev tok Tryz.call75 Tryz.func75 rfl rfl rfl ?_
  refine call_rule H (fun M I _ h => nan23 a _ M I h) fun _ w1 _ H1 => ?_
  refine call_rule H1 (fun M I _ h => nan23 b _ M I h) fun _ w2 _ H2 => ?_
  refine brd (fun h => ?_) (fun h => ?_)
  · exact Exists.intro () (And.intro (congrArg (Value.int .i64) (by simp [cmpI, h])) (And.intro trivial H2))
  · refine brd (fun h2 => ?_) (fun h2 => ?_)
    · exact Exists.intro () (And.intro (congrArg (Value.int .i64) (by simp [cmpI, h, h2])) (And.intro trivial H2))
    · exact Exists.intro () (And.intro (congrArg (Value.int .i64) (by simp [cmpI, h, h2])) (And.intro trivial H2))
structure Key where
  loan : Int
  day : Int
  kind : Int
  seq : Int
deriving DecidableEq
@[reducible] def keyC (k : Key) : List Value := [.int .u32 k.loan, .int .i32 k.day, .int .u8 k.kind, .int .u32 k.seq]
@[reducible] def keyV (k : Key) : Value := .agg #[.int .u32 k.loan, .int .i32 k.day, .int .u8 k.kind, .int .u32 k.seq]
def orL : List Int → Int
  | [] => 0
  | x :: r => if x ≠ 0 then x else orL r
theorem orOf [Wk.Mode] (l : List Int) (n : Nat) (hl : l.length ≤ 1000) (w : World) (M I : BS) (H : Hp ⟨w, M, I⟩ [blk n (l.map (Value.int .i64)) 3] [] w) :
    Ctr Tryz.prog 73 [.slice (some ⟨n, 0, none⟩) l.length l.length] w M I (fun _ : Unit => .int .i64 (orL l)) (fun _ => True) (fun _ => []) (fun _ => []) := by
  refine Exe.of_ev tok Tryz.call73 Tryz.func73 rfl rfl rfl ?_
  refine loop_rule tok (σ := Nat) 130852 (fun i => [(3, .int .i64 0), (8, .int .i64 i)]) (fun i w' => i ≤ l.length ∧ orL l = orL (l.drop i) ∧ Hp ⟨w, M, I⟩ [blk n (l.map (Value.int .i64)) 3] [] w') (fun i => l.length - i) 0 rfl rfl ⟨rfl, rfl, trivial⟩ ⟨Nat.zero_le _, rfl, H⟩ ?_
  rintro i j w1 ⟨hi, ho, H1⟩
  refine brd (fun h => ?_) (fun h => ?_)
  · have hlt : i < l.length := by omega
    obtain ⟨x, hx⟩ : ∃ x, l[i]? = some x := ⟨_, List.getElem?_eq_getElem hlt⟩
    have hd : l.drop i = x :: l.drop (i + 1) := by
      rw [List.drop_eq_getElem_cons hlt]
      rw [List.getElem?_eq_getElem hlt] at hx
      rw [Option.some.inj hx]
    refine idx_own tok rfl rfl (by omega) (by omega) ?_
    refine load_rule tok H1 (v := .int .i64 x) ?_ ?_
    · show (l.map (Value.int .i64))[0 + (Int.toNat (i : Int)) * 1]? = _
      simp [hx]
    · refine br (fun h2 => ?_) (fun h2 => ?_)
      · refine Exists.intro () (And.intro (congrArg (Value.int .i64) ?_) (And.intro trivial H1.drop))
        rw [ho, hd, orL, if_pos (by simpa using h2)]
      · refine Exists.intro (i + 1) (And.intro ⟨rfl, ?_, trivial⟩ (And.intro (by omega) ⟨by omega, ?_, H1⟩))
        · show Value.int .i64 (IntKind.i64.wrap (i + 1)) = _
          rw [w64 (by omega) (by omega)]; rfl
        · rw [ho, hd, orL, if_neg (by simpa using h2)]
  · refine Exists.intro () (And.intro (congrArg (Value.int .i64) ?_) (And.intro trivial H1.drop))
    rw [ho, List.drop_eq_nil_of_le (by omega), orL]
theorem or4 [Wk.Mode] (a b c d : Int) (n : Nat) (w : World) (M I : BS) (H : Hp ⟨w, M, I⟩ [blk n [.int .i64 a, .int .i64 b, .int .i64 c, .int .i64 d] 3] [] w) :
    Ctr Tryz.prog 73 [.slice (some ⟨n, 0, none⟩) 4 4] w M I (fun _ : Unit => .int .i64 (orL [a, b, c, d])) (fun _ => True) (fun _ => []) (fun _ => []) := orOf [a, b, c, d] n (by simp) w M I H
def lessB (a b : Key) : Bool := decide (orL [cmpI a.loan b.loan, cmpI a.day b.day, cmpI a.kind b.kind, cmpI a.seq b.seq] < 0)
theorem less [Wk.Mode] (a b : Key) : CB 46 [keyV a, keyV b] (.bool (lessB a b)) := by
  intro w M I H
  refine Exe.of_ev tok Tryz.call46 Tryz.func46 rfl rfl rfl ?_
  refine box_as H (keyC a) rfl fun x w1 H1 => ?_
  refine box_as H1 (keyC b) rfl fun y w2 H2 => ?_
  refine draw_rule (A := []) tok tdr H2 [0, 1, 2, 3, 4, 5, 6, 7, 8, 9, 10, 11, 12, 13, 14, 15, 16, 17, 18, 19, 20, 21, 22, 23] [0, 1, 0, 4, 15, 0, 32, 0, 128, 511, 0, 1024, 0, 4096, 16383, 0, 32768, 0, 131072, 524287, 1048575, 2097151, 4194303, 8388607] rfl ?_
  refine pass_rule _ (fun w h => load_rule tok h rfl ⟨rfl, rfl⟩) ?_
  refine pass_rule _ (fun w h => load_rule tok h rfl ⟨rfl, rfl⟩) ?_
  refine imp_rule (fun X w h => call_rule h (fun M I _ h => cmp22 a.loan b.loan _ M I h) fun _ w1 _ H1 => imp_done H1 ?_)
  refine pass_rule _ (fun w h => load_rule tok h rfl ⟨rfl, rfl⟩) ?_
  refine pass_rule _ (fun w h => load_rule tok h rfl ⟨rfl, rfl⟩) ?_
  refine imp_rule (fun X w h => call_rule h (fun M I _ h => cmp23 a.day b.day _ M I h) fun _ w1 _ H1 => imp_done H1 ?_)
  refine pass_rule _ (fun w h => load_rule tok h rfl ⟨rfl, rfl⟩) ?_
  refine pass_rule _ (fun w h => load_rule tok h rfl ⟨rfl, rfl⟩) ?_
  refine imp_rule (fun X w h => call_rule h (fun M I _ h => cmp5 a.kind b.kind _ M I h) fun _ w1 _ H1 => imp_done H1 ?_)
  refine pass_rule _ (fun w h => load_rule tok h rfl ⟨rfl, rfl⟩) ?_
  refine pass_rule _ (fun w h => load_rule tok h rfl ⟨rfl, rfl⟩) ?_
  refine imp_rule (fun X w h => call_rule h (fun M I _ h => cmp22 a.seq b.seq _ M I h) fun _ w1 _ H1 => imp_done H1 ?_)
  refine fresh_slice tok [.int .i64 (cmpI a.loan b.loan), .int .i64 (cmpI a.day b.day), .int .i64 (cmpI a.kind b.kind), .int .i64 (cmpI a.seq b.seq)] rfl rfl rfl rfl rfl rfl rfl fun n => ?_
  refine imp_rule (fun X w h => call_rule h (fun M I _ h => or4 (cmpI a.loan b.loan) (cmpI a.day b.day) (cmpI a.kind b.kind) (cmpI a.seq b.seq) n _ M I h) fun _ w1 _ H1 => imp_done H1 ?_)
  refine done_rule fun w3 H3 => ?_
  exact Exists.intro () (And.intro rfl (And.intro trivial H3.dropAll))
theorem key_ (a : Key) : CB 27 [keyV a] (keyV a) := by
  intro w M I H
  refine Exe.of_ev tok Tryz.call27 Tryz.func27 rfl rfl rfl ?_
  refine box_as H (keyC a) rfl fun x w1 H1 => ?_
  refine alloc_rule tok H1 rfl rfl fun n w2 H2 => ?_
  refine load_rule tok H2 rfl ?_
  refine load_rule tok H2 rfl ?_
  refine load_rule tok H2 rfl ?_
  refine load_rule tok H2 rfl ?_
  refine store_rule tok H2 rfl rfl rfl rfl fun w3 H3 => ?_
  refine Exists.intro ⟨n, 0, none⟩ (Exists.intro (keyV a) (And.intro rfl (And.intro (Hp.ld (T := tb) tok H3 rfl) ?_)))
  exact Exists.intro () (And.intro rfl (And.intro trivial H3.dropAll))
def accL : List ByteArray := [⟨#[]⟩, ⟨#[99, 97, 115, 104]⟩, ⟨#[112, 114, 105, 110, 99, 105, 112, 97, 108]⟩, ⟨#[105, 110, 116, 101, 114, 101, 115, 116]⟩, ⟨#[102, 101, 101, 115]⟩, ⟨#[115, 117, 115, 112, 101, 110, 115, 101]⟩, ⟨#[105, 110, 99, 111, 109, 101]⟩, ⟨#[99, 104, 97, 114, 103, 101, 115]⟩, ⟨#[108, 111, 115, 115]⟩, ⟨#[114, 101, 99, 111, 118, 101, 114, 101, 100]⟩]
def kindL : List ByteArray := [⟨#[]⟩, ⟨#[98, 111, 97, 114, 100]⟩, ⟨#[97, 99, 99, 114, 117, 101]⟩, ⟨#[108, 97, 116, 101]⟩, ⟨#[112, 97, 121]⟩, ⟨#[102, 101, 101]⟩, ⟨#[119, 97, 105, 118, 101]⟩, ⟨#[111, 102, 102]⟩]
def accName (k : Int) : ByteArray := (accL[k.toNat]?).getD ⟨#[]⟩
def kindName (k : Int) : ByteArray := (kindL[k.toNat]?).getD ⟨#[]⟩
theorem account (k : Int) (h0 : 0 ≤ k) (h1 : k ≤ 255) : CB 64 [.int .u8 k] (.string (accName k)) := by
  intro w M I H
  refine Exe.of_ev tok Tryz.call64 Tryz.func64 rfl rfl rfl ?_
  refine slice_as tok H (accL.map Value.string) rfl rfl rfl rfl rfl rfl fun g w1 H1 => ?_
  have e : IntKind.i64.wrap k = k := w64 (by omega) (by omega)
  refine brd (fun h => ?_) (fun h => ?_)
  · refine Exists.intro () (And.intro (congrArg Value.string ?_) (And.intro trivial H1.drop))
    rw [e] at h
    have : accL.length ≤ k.toNat := by show 10 ≤ _; omega
    simp [accName, List.getElem?_eq_none this]
  · rw [e] at h
    refine idx_own tok rfl rfl h0 (by omega) ?_
    have hlt : k.toNat < accL.length := by show _ < 10; omega
    refine load_rule tok H1 (v := .string (accName k)) ?_ ?_
    · show (accL.map Value.string)[0 + k.toNat * 1]? = _
      simp [accName, List.getElem?_eq_getElem hlt]
    · exact Exists.intro () (And.intro rfl (And.intro trivial H1.drop))
theorem kind (k : Int) (h0 : 0 ≤ k) (h1 : k ≤ 255) : CB 62 [.int .u8 k] (.string (kindName k)) := by
  intro w M I H
  refine Exe.of_ev tok Tryz.call62 Tryz.func62 rfl rfl rfl ?_
  refine slice_as tok H (kindL.map Value.string) rfl rfl rfl rfl rfl rfl fun g w1 H1 => ?_
  have e : IntKind.i64.wrap k = k := w64 (by omega) (by omega)
  refine brd (fun h => ?_) (fun h => ?_)
  · refine Exists.intro () (And.intro (congrArg Value.string ?_) (And.intro trivial H1.drop))
    rw [e] at h
    have : kindL.length ≤ k.toNat := by show 8 ≤ _; omega
    simp [kindName, List.getElem?_eq_none this]
  · rw [e] at h
    refine idx_own tok rfl rfl h0 (by omega) ?_
    have hlt : k.toNat < kindL.length := by show _ < 8; omega
    refine load_rule tok H1 (v := .string (kindName k)) ?_ ?_
    · show (kindL.map Value.string)[0 + k.toNat * 1]? = _
      simp [kindName, List.getElem?_eq_getElem hlt]
    · exact Exists.intro () (And.intro rfl (And.intro trivial H1.drop))
end Go.Proofs.YtfemfomgmopibaaGreatDoor
namespace Go.Proofs.YtfemfomgmopibaaGreatDoor
open Go Go.Proofs Go.Wk
structure Leg where
  acct : Int
  amt : Int
deriving DecidableEq
@[reducible] def legV (x : Leg) : Value := .agg #[.int .u8 x.acct, .int .i64 x.amt]
@[reducible] def legR : Rp Leg := ⟨2, Unit, fun x _ => [.int .u8 x.acct, .int .i64 x.amt], fun x _ => inK .u8 x.acct ∧ inK .i64 x.amt, fun _ _ => [], fun _ _ => rfl⟩
def legsC : List Leg → List Value
  | [] => []
  | x :: r => .int .u8 x.acct :: .int .i64 x.amt :: legsC r
theorem legsC_len : ∀ ls : List Leg, (legsC ls).length = ls.length * 2
  | [] => rfl
  | x :: r => by simp only [legsC, List.length_cons, legsC_len r]; omega
theorem legsC_drop : ∀ (ls : List Leg) (j : Nat), (legsC ls).drop (j * 2) = legsC (ls.drop j)
  | ls, 0 => by simp
  | [], j + 1 => by simp [legsC]
  | x :: r, j + 1 => by
    rw [show (j + 1) * 2 = j * 2 + 1 + 1 by omega]
    simp only [legsC, List.drop_succ_cons]
    exact legsC_drop r j
theorem legsC_app : ∀ a b : List Leg, legsC (a ++ b) = legsC a ++ legsC b
  | [], _ => rfl
  | x :: a, b => by simp [legsC, legsC_app a b]
theorem legs_get {ls : List Leg} {j : Nat} {x : Leg} (h : ls[j]? = some x) : ldV (tb 43) (legsC ls) (0 + j * 2) = some (legV x) := by
  obtain ⟨hj, _⟩ := List.getElem?_eq_some_iff.1 h
  have hd : ls.drop j = x :: ls.drop (j + 1) := by
    rw [List.drop_eq_getElem_cons hj]
    rw [List.getElem?_eq_getElem hj] at h
    rw [Option.some.inj h]
  show (bif Nat.ble (0 + j * 2 + 2) (legsC ls).length then some (Value.agg (((legsC ls).drop (0 + j * 2)).take 2).toArray) else none) = _
  rw [Nat.zero_add, legsC_drop, hd]
  have : Nat.ble (j * 2 + 2) (legsC ls).length = true := by rw [Nat.ble_eq, legsC_len]; omega
  rw [this]
  rfl
theorem legs_set : ∀ (ls : List Leg) (j : Nat) (x : Leg), setL (legsC ls) (0 + j * 2) [.int .u8 x.acct, .int .i64 x.amt] = legsC (ls.set j x)
  | [], j, x => by simp [legsC, setL]
  | y :: r, 0, x => rfl
  | y :: r, j + 1, x => by
    have ih := legs_set r j x
    rw [show 0 + (j + 1) * 2 = 0 + j * 2 + 1 + 1 by omega]
    simp only [legsC, setL, List.set_cons_succ] at ih ⊢
    rw [← ih]
theorem str_idx {P : Program} {T : Tab} {K : Value → World → Prop} {w : World} (hT : T.Ok P) {t : TypeId} {it : TypeInfo} {s : ByteArray} {kd : IntKind} {j : Int} (ht : T t = some ⟨.string, it⟩) (h0 : 0 ≤ j) (h1 : j.toNat < s.size) (k : ∀ b : Int, 0 ≤ b → b ≤ 255 → K (.int .u8 b) w) : IndexK P K w t (.string s) (.int kd j) := by
  obtain ⟨b, hb⟩ : ∃ b, s[j.toNat]? = some b := ⟨_, getElem?_pos s j.toNat h1⟩
  refine IndexK.of (v := .int .u8 b.toNat) (w' := w) ?_ (k b.toNat (by omega) (by have := b.toNat_lt; omega))
  simp [Instr.index, asIntOf, run_und hT ht, h0, hb]
@[reducible] def CI (g : Nat) (args : List Value) : Prop := ∀ (w : World) (M I : BS), Hp ⟨w, M, I⟩ [] [] w → Ctr Tryz.prog g args w M I (fun v : Int => .int .i64 v) (fun _ => True) (fun _ => []) (fun _ => [])
theorem len64 (x : Int) (h0 : 0 ≤ x) (h1 : x ≤ 200) : CI 92 [.int .u64 x] := by
  intro w M I H
  refine Exe.of_ev tok Tryz.call92 Tryz.func92 rfl rfl rfl ?_
  refine brd (fun h => ?_) (fun _ => ?_)
  · omega
  refine brd (fun h => ?_) (fun _ => ?_)
  · omega
  refine brd (fun h => ?_) (fun _ => ?_)
  · omega
  have e : IntKind.u8.wrap x = x := wrap_id ⟨by simpa [kLo] using h0, by simp only [kHi]; omega⟩
  refine str_idx tok rfl (by rw [e]; exact h0) (by rw [e]; exact Nat.lt_of_lt_of_le (show x.toNat < 201 by omega) (Nat.le_of_ble_eq_true (by kernel_rfl))) fun b hb0 hb1 => ?_
  exact Exists.intro _ (And.intro rfl (And.intro trivial H))
theorem len_ (x : Int) (h0 : 0 ≤ x) (h1 : x ≤ 200) : CI 60 [.int .u64 x] := by
  intro w M I H
  refine Exe.of_ev tok Tryz.call60 Tryz.func60 rfl rfl rfl ?_
  refine call_rule H (fun M I _ h => len64 x h0 h1 _ M I h) fun v w1 _ H1 => ?_
  exact Exists.intro v (And.intro rfl (And.intro trivial H1))
theorem cmpLeg (a b : Leg) : CB 35 [legV a, legV b] (.int .i64 (cmpI a.acct b.acct)) := by
  intro w M I H
  refine Exe.of_ev tok Tryz.call35 Tryz.func35 rfl rfl rfl ?_
  refine box_as H [.int .u8 a.acct, .int .i64 a.amt] rfl fun x w1 H1 => ?_
  refine box_as H1 [.int .u8 b.acct, .int .i64 b.amt] rfl fun y w2 H2 => ?_
  refine load_rule tok H2 rfl ?_
  refine load_rule tok H2 rfl ?_
  refine call_rule H2 (fun M I _ h => cmp5 a.acct b.acct _ M I h) fun _ w3 _ H3 => ?_
  exact Exists.intro () (And.intro rfl (And.intro trivial H3.dropAll))
def srt (l : List Leg) : Prop := l.Pairwise fun a b => a.acct ≤ b.acct
theorem insSort (g n c : Nat) (hn : n ≤ 1000000) (ls : List Leg) (hl : ls.length = n) (w : World) (M I : BS) (H : Hp ⟨w, M, I⟩ [row 43 2 (.slice (some ⟨g, 0, none⟩) n c) n (legsC ls)] [] w) :
    Ctr Tryz.prog 83 [.slice (some ⟨g, 0, none⟩) n c, .int .i64 0, .int .i64 n, .func (.func 35) #[] #[]] w M I (fun _ : List Leg => .tuple #[]) (fun l => l.Perm ls ∧ srt l) (fun l => [row 43 2 (.slice (some ⟨g, 0, none⟩) n c) n (legsC l)]) (fun _ => []) := by
  refine Exe.of_ev tok Tryz.call83 Tryz.func83 rfl rfl rfl ?_
  refine loop_rule tok (σ := Nat × List Leg) 9007199254737664 (fun s => [(8, .int .i64 s.1)]) (fun s w' => 1 ≤ s.1 ∧ s.1 ≤ 1000001 ∧ s.2.Perm ls ∧ srt (s.2.take s.1) ∧ Hp ⟨w, M, I⟩ [row 43 2 (.slice (some ⟨g, 0, none⟩) n c) n (legsC s.2)] [] w') (fun s => n - s.1) (1, ls) rfl rfl ⟨rfl, trivial⟩ ⟨Nat.le_refl _, by simp, .refl _, ?_, H⟩ ?_
  · cases ls with
    | nil => exact List.Pairwise.nil
    | cons x r => simp [srt]
  rintro ⟨i, l1⟩ j0 w1 ⟨hi, hi2, hp, hs, H1⟩
  simp only at hi hi2 hp hs H1
  refine brd (fun h => ?_) (fun h => ?_)
  · have hlt : i < n := by omega
    have hl1 : l1.length = n := by rw [hp.length_eq, hl]
    obtain ⟨pre, y, rest, rfl, hpre⟩ : ∃ pre y rest, l1 = pre ++ y :: rest ∧ pre.length = i := by
      refine ⟨l1.take i, l1[i], l1.drop (i + 1), ?_, by rw [List.length_take]; omega⟩
      rw [List.getElem_cons_drop, List.take_append_drop]
    rw [← hpre, List.take_left] at hs
    refine loop_rule tok (σ := List Leg × List Leg) 9007199254479360 (fun s => [(9, .int .i64 s.1.length)]) (fun s w' => s.1 ++ s.2 = pre ∧ (∀ z, z ∈ s.2 → y.acct ≤ z.acct) ∧ Hp ⟨w, M, I⟩ [row 43 2 (.slice (some ⟨g, 0, none⟩) n c) n (legsC (s.1 ++ y :: (s.2 ++ rest)))] [] w') (fun s => s.1.length) (pre, []) rfl rfl ⟨?_, trivial⟩ ⟨by simp, by simp, by simpa using H1⟩ ?_
    · show Value.int .i64 _ = _
      rw [hpre]
    rintro ⟨p, s⟩ j1 w2 ⟨e, hz, H2⟩
    simp only at e hz H2
    have hps := congrArg List.length e
    have hll : pre.length + 1 + rest.length = n := by rw [← hl1]; simp; omega
    simp only [List.length_append] at hps
    have fin : ∀ w3, srt (p ++ y :: s) → Hp ⟨w, M, I⟩ [row 43 2 (.slice (some ⟨g, 0, none⟩) n c) n (legsC (p ++ y :: (s ++ rest)))] [] w3 → (p ++ y :: (s ++ rest)).Perm ls ∧ srt ((p ++ y :: (s ++ rest)).take (i + 1)) := fun w3 h1 _ => by
      refine ⟨?_, ?_⟩
      · refine List.Perm.trans ?_ hp
        have e1 : pre ++ y :: rest = p ++ (s ++ y :: rest) := by rw [← e]; simp
        have e2 : p ++ y :: (s ++ rest) = p ++ (y :: s ++ rest) := by simp
        rw [e1, e2]
        refine List.Perm.append_left p ?_
        exact (List.perm_middle (a := y) (l₁ := s) (l₂ := rest)).symm
      · have e2 : p ++ y :: (s ++ rest) = (p ++ y :: s) ++ rest := by simp
        rw [e2, List.take_left' (by simp <;> omega)]
        exact h1
    have hs' : srt (p ++ s) := by rw [e]; exact hs
    obtain ⟨hsp, hss, hsc⟩ := List.pairwise_append.1 hs'
    rcases List.eq_nil_or_concat p with hpe | ⟨p', x, hpe⟩
    · subst hpe
      refine draw_rule (A := []) tok tdr H2 [0, 1, 2, 3, 4, 5, 6, 7, 8, 9, 10, 11, 12, 13, 14, 15, 16] [0, 0, 3, 7, 15, 15, 15, 111, 239, 15, 15, 1039, 3599, 7695, 16383, 32767, 65535] rfl ?_
      refine done_rule fun w3 H3 => ?_
      have hf := fin w3 (List.pairwise_cons.2 ⟨fun z hz' => hz z hz', hss⟩) H3
      refine Exists.intro (i + 1, [] ++ y :: (s ++ rest)) (And.intro ⟨?_, trivial⟩ (And.intro ?_ ⟨by simp only; omega, by simp only; omega, hf.1, hf.2, H3⟩))
      · show Value.int .i64 (IntKind.i64.wrap (i + 1)) = _
        rw [w64 (by omega) (by omega)]; rfl
      · simp only; omega
    · rw [List.concat_eq_append] at hpe
      subst hpe
      simp only [List.length_append, List.length_cons, List.length_nil] at hps
      have hy : (p' ++ [x] ++ y :: (s ++ rest))[(((p' ++ [x]).length : Nat) : Int).toNat]? = some y := by simp
      have hx : (p' ++ [x] ++ y :: (s ++ rest))[(IntKind.i64.wrap ((((p' ++ [x]).length : Nat) : Int) - 1)).toNat]? = some x := by
        rw [w64 (by simp <;> omega) (by simp <;> omega)]
        simp
      have i1 : (0 : Int) ≤ (((p' ++ [x]).length : Nat) : Int) := by omega
      have i2 : (((p' ++ [x]).length : Nat) : Int) < n := by simp <;> omega
      have i3 : (0 : Int) ≤ IntKind.i64.wrap ((((p' ++ [x]).length : Nat) : Int) - 1) := by rw [w64 (by simp <;> omega) (by simp <;> omega)]; simp
      have i4 : IntKind.i64.wrap ((((p' ++ [x]).length : Nat) : Int) - 1) < n := by rw [w64 (by simp <;> omega) (by simp <;> omega)]; simp <;> omega
      refine draw_rule (A := []) tok tdr H2 [0, 1, 2, 3, 4, 5, 6, 7, 8, 9, 10, 11, 12, 13, 14, 15, 16] [0, 0, 3, 7, 15, 15, 15, 111, 239, 15, 15, 1039, 3599, 7695, 16383, 32767, 65535] rfl ?_
      refine brd (fun q => ?_) (fun q => ?_)
      · refine pass_rule _ (fun w h => idx_own tok rfl rfl i1 i2 ⟨rfl, rfl⟩) ?_
        refine pass_rule _ (fun w h => row_ld tok h (legV y) (legs_get hy) ⟨rfl, rfl⟩) ?_
        refine pass_rule _ (fun w h => idx_own tok rfl rfl i3 i4 ⟨rfl, rfl⟩) ?_
        refine pass_rule _ (fun w h => row_ld tok h (legV x) (legs_get hx) ⟨rfl, rfl⟩) ?_
        refine imp_rule (fun X w h => call_rule h (fun M I _ h => cmpLeg y x _ M I h) fun _ w1 _ H1 => imp_done H1 ?_)
        refine done_rule fun w3 H3 => ?_
        refine brd (fun q2 => ?_) (fun q2 => ?_)
        · have hlt : y.acct < x.acct := by
            unfold cmpI at q2
            split at q2
            · assumption
            · split at q2 <;> simp at q2
          have hln : (legsC (p' ++ [x] ++ y :: (s ++ rest))).length = n * 2 := by rw [legsC_len]; simp; omega
          have hb1 : 0 + (((p' ++ [x]).length : Nat) : Int).toNat * 2 + 2 ≤ (legsC (p' ++ [x] ++ y :: (s ++ rest))).length := by rw [hln]; omega
          have hb2 : 0 + (IntKind.i64.wrap ((((p' ++ [x]).length : Nat) : Int) - 1)).toNat * 2 + 2 ≤ (setL (legsC (p' ++ [x] ++ y :: (s ++ rest))) (0 + (((p' ++ [x]).length : Nat) : Int).toNat * 2) [.int .u8 x.acct, .int .i64 x.amt]).length := by rw [length_setL, hln]; omega
          refine draw_rule (A := [row 43 2 (.slice (some ⟨g, 0, none⟩) n c) n (legsC (p' ++ [x] ++ y :: (s ++ rest)))]) tok tdr H3 [0, 1, 5, 6, 7, 8, 9, 10, 11, 12, 13, 14, 15, 2, 3, 4, 16, 17] [0, 0, 0, 0, 8, 0, 0, 64, 224, 480, 0, 0, 3072, 7168, 16355, 32739, 65535, 131071] rfl ?_
          refine pass_rule _ (fun w h => idx_own tok rfl rfl i3 i4 ⟨rfl, rfl⟩) ?_
          refine pass_last _ rfl (fun X w h => row_ld tok h (legV x) (legs_get hx) ⟨rfl, rfl⟩) ?_
          refine pass_rule _ (fun w h => idx_own tok rfl rfl i1 i2 ⟨rfl, rfl⟩) ?_
          refine pass_last _ rfl (fun X w h => row_ld tok h (legV y) (legs_get hy) ⟨rfl, rfl⟩) ?_
          refine pass_rule _ (fun w h => idx_own tok rfl rfl i1 i2 ⟨rfl, rfl⟩) ?_
          refine imp_rule (fun X w h => row_st tok h rfl rfl hb1 rfl fun w' H' => imp_done H' ?_)
          refine pass_rule _ (fun w h => idx_own tok rfl rfl i3 i4 ⟨rfl, rfl⟩) ?_
          refine imp_rule (fun X w h => row_st tok h rfl rfl hb2 rfl fun w' H' => imp_done H' ?_)
          refine done_rule fun w4 H4 => ?_
          refine Exists.intro (p', x :: s) (And.intro ⟨?_, trivial⟩ (And.intro ?_ ⟨?_, ?_, ?_⟩))
          · show Value.int .i64 (IntKind.i64.wrap _) = _
            rw [w64 (by simp <;> omega) (by simp <;> omega)]; simp
          · simp
          · simpa using e
          · intro z hz'
            rcases List.mem_cons.1 hz' with rfl | hz'
            · exact Int.le_of_lt hlt
            · exact hz z hz'
          · have ee : setL (setL (legsC (p' ++ [x] ++ y :: (s ++ rest))) (0 + (((p' ++ [x]).length : Nat) : Int).toNat * 2) [.int .u8 x.acct, .int .i64 x.amt]) (0 + (IntKind.i64.wrap ((((p' ++ [x]).length : Nat) : Int) - 1)).toNat * 2) [.int .u8 y.acct, .int .i64 y.amt] = legsC (p' ++ y :: (x :: s ++ rest)) := by
              rw [legs_set, legs_set, w64 (by simp <;> omega) (by simp <;> omega)]
              congr 1
              simp
            rw [← ee]
            exact H4
        · have hle : x.acct ≤ y.acct := by
            unfold cmpI at q2
            split at q2
            · simp at q2
            · omega
          have hf := fin w3 (by
            refine List.pairwise_append.2 ⟨hsp, List.pairwise_cons.2 ⟨fun z hz' => hz z hz', hss⟩, fun u hu v hv => ?_⟩
            rcases List.mem_cons.1 hv with rfl | hv
            · rcases List.mem_append.1 hu with hu | hu
              · exact Int.le_trans ((List.pairwise_append.1 hsp).2.2 u hu x (by simp)) hle
              · simp only [List.mem_singleton] at hu; subst hu; exact hle
            · exact hsc u hu v hv) H3
          refine Exists.intro (i + 1, p' ++ [x] ++ y :: (s ++ rest)) (And.intro ⟨?_, trivial⟩ (And.intro ?_ ⟨by simp only; omega, by simp only; omega, hf.1, hf.2, H3⟩))
          · show Value.int .i64 (IntKind.i64.wrap (i + 1)) = _
            rw [w64 (by omega) (by omega)]; rfl
          · simp only; omega
      · exact absurd q (by simp <;> omega)
  · exact Exists.intro l1 (And.intro rfl (And.intro ⟨hp, by rwa [List.take_of_length_le (by have := hp.length_eq; omega)] at hs⟩ H1))
theorem pdq (g n c : Nat) (hn : n ≤ 12) (z : Int) (ls : List Leg) (hl : ls.length = n) (w : World) (M I : BS) (H : Hp ⟨w, M, I⟩ [row 43 2 (.slice (some ⟨g, 0, none⟩) n c) n (legsC ls)] [] w) :
    Ctr Tryz.prog 59 [.slice (some ⟨g, 0, none⟩) n c, .int .i64 0, .int .i64 n, .int .i64 z, .func (.func 35) #[] #[]] w M I (fun _ : List Leg => .tuple #[]) (fun l => l.Perm ls ∧ srt l) (fun l => [row 43 2 (.slice (some ⟨g, 0, none⟩) n c) n (legsC l)]) (fun _ => []) := by
  refine Exe.of_ev tok Tryz.call59 Tryz.func59 rfl rfl rfl ?_
  refine loop_rule tok (σ := Unit) 356811923176489970264571492362373784095685646 (fun _ => [(1, .int .i64 0), (2, .int .i64 n)]) (fun _ w' => Hp ⟨w, M, I⟩ [row 43 2 (.slice (some ⟨g, 0, none⟩) n c) n (legsC ls)] [] w') (fun _ => 0) () rfl rfl ⟨rfl, rfl, trivial⟩ H ?_
  rintro ⟨⟩ j w1 H1
  have e : IntKind.i64.wrap ((n : Int) - 0) = n := by rw [Int.sub_zero]; exact w64 (by omega) (by omega)
  refine brd (fun h => ?_) (fun h => ?_)
  · refine call_rule H1 (fun M I _ h => insSort g n c (by omega) ls hl _ M I h) fun l w2 hφ H2 => ?_
    exact Exists.intro l (And.intro rfl (And.intro hφ H2))
  · rw [e] at h; omega
theorem sortFew (g n c : Nat) (hn : n ≤ 12) (ls : List Leg) (hl : ls.length = n) (w : World) (M I : BS) (H : Hp ⟨w, M, I⟩ [row 43 2 (.slice (some ⟨g, 0, none⟩) n c) n (legsC ls)] [] w) :
    Ctr Tryz.prog 34 [.slice (some ⟨g, 0, none⟩) n c, .func (.func 35) #[] #[]] w M I (fun _ : List Leg => .tuple #[]) (fun l => l.Perm ls ∧ srt l) (fun l => [row 43 2 (.slice (some ⟨g, 0, none⟩) n c) n (legsC l)]) (fun _ => []) := by
  refine Exe.of_ev tok Tryz.call34 Tryz.func34 rfl rfl rfl ?_
  have e : IntKind.u64.wrap (n : Int) = n := wrap_id ⟨by simp [kLo], by simp only [kHi]; omega⟩
  refine call_rule H (fun M I _ h => (by rw [e]; exact len_ n (by omega) (by omega) _ M I h)) fun z w1 _ H1 => ?_
  refine call_rule H1 (fun M I _ h => pdq g n c hn z ls hl _ M I h) fun l w2 hφ H2 => ?_
  exact Exists.intro l (And.intro rfl (And.intro hφ H2))
theorem insNil : CB 83 [.slice none 0 0, .int .i64 0, .int .i64 0, .func (.func 35) #[] #[]] (.tuple #[]) := by
  intro w M I H
  refine Exe.of_ev tok Tryz.call83 Tryz.func83 rfl rfl rfl ?_
  refine loop_rule tok (σ := Unit) 9007199254737664 (fun s => [(8, .int .i64 1)]) (fun _ w' => Hp ⟨w, M, I⟩ [] [] w') (fun _ => 0) () rfl rfl ⟨rfl, trivial⟩ H ?_
  rintro ⟨⟩ j0 w1 H1
  exact Exists.intro () (And.intro rfl (And.intro trivial H1))
theorem pdqNil (z : Int) : CB 59 [.slice none 0 0, .int .i64 0, .int .i64 0, .int .i64 z, .func (.func 35) #[] #[]] (.tuple #[]) := by
  intro w M I H
  refine Exe.of_ev tok Tryz.call59 Tryz.func59 rfl rfl rfl ?_
  refine loop_rule tok (σ := Unit) 356811923176489970264571492362373784095685646 (fun _ => [(1, .int .i64 0), (2, .int .i64 0)]) (fun _ w' => Hp ⟨w, M, I⟩ [] [] w') (fun _ => 0) () rfl rfl ⟨rfl, rfl, trivial⟩ H ?_
  rintro ⟨⟩ j w1 H1
  refine call_rule H1 (fun M I _ h => insNil _ M I h) fun l w2 hφ H2 => ?_
  exact Exists.intro () (And.intro rfl (And.intro trivial H2))
theorem sortNil : CB 34 [.slice none 0 0, .func (.func 35) #[] #[]] (.tuple #[]) := by
  intro w M I H
  refine Exe.of_ev tok Tryz.call34 Tryz.func34 rfl rfl rfl ?_
  refine call_rule H (fun M I _ h => len_ 0 (by omega) (by omega) _ M I h) fun z w1 _ H1 => ?_
  refine call_rule H1 (fun M I _ h => pdqNil z _ M I h) fun l w2 hφ H2 => ?_
  exact Exists.intro () (And.intro rfl (And.intro trivial H2))
def in64 (n : Int) : Bool := decide (-9223372036854775808 ≤ n) && decide (n ≤ 9223372036854775807)
def addV (a b : Int) : Value := if in64 (a + b) then .tuple #[.int .i64 (a + b), .nilIface] else .tuple #[.int .i64 0, .iface 47 (.int .i64 12)]
theorem wrap_hi {n : Int} (h1 : 9223372036854775807 < n) (h2 : n ≤ 18446744073709551614) : IntKind.i64.wrap n = n - 18446744073709551616 := by
  simp [IntKind.wrap, IntKind.signed, IntKind.bits]; omega
theorem wrap_lo {n : Int} (h1 : n < -9223372036854775808) (h2 : -18446744073709551616 ≤ n) : IntKind.i64.wrap n = n + 18446744073709551616 := by
  simp [IntKind.wrap, IntKind.signed, IntKind.bits]; omega
theorem addV_no {a b : Int} (en : in64 (a + b) = false) : Value.tuple #[.int .i64 0, .iface 47 (.int .i64 12)] = addV a b := by unfold addV; rw [en]; rfl
theorem addV_ok {a b : Int} (en : in64 (a + b) = true) : Value.tuple #[.int .i64 (a + b), .nilIface] = addV a b := by unfold addV; rw [en]; rfl
theorem add (a b : Int) (ha : inK .i64 a) (hb : inK .i64 b) : CB 33 [.int .i64 a, .int .i64 b] (addV a b) := by
  intro w M I H
  obtain ⟨a1, a2⟩ := ha
  obtain ⟨b1, b2⟩ := hb
  simp only [kLo, kHi] at a1 a2 b1 b2
  refine Exe.of_ev tok Tryz.call33 Tryz.func33 rfl rfl rfl ?_
  rcases (show 9223372036854775807 < a + b ∨ a + b < -9223372036854775808 ∨ (-9223372036854775808 ≤ a + b ∧ a + b ≤ 9223372036854775807) by omega) with h | h | ⟨h, h'⟩
  · have e := wrap_hi h (by omega)
    have en : in64 (a + b) = false := by unfold in64; rw [decide_eq_false (show ¬ a + b ≤ 9223372036854775807 by omega), Bool.and_false]
    refine brd (fun q => ?_) (fun q => ?_)
    · refine brd (fun q2 => ?_) (fun q2 => ?_)
      · exact Exists.intro () (And.intro (addV_no en) (And.intro trivial H))
      · exact absurd q2 (by rw [e]; omega)
    · exact absurd q (by omega)
  · have e := wrap_lo h (by omega)
    have en : in64 (a + b) = false := by unfold in64; rw [decide_eq_false (show ¬ -9223372036854775808 ≤ a + b by omega), Bool.false_and]
    refine brd (fun q => ?_) (fun q => ?_)
    · exact absurd q (show ¬ 0 < b by omega)
    · refine brd (fun q2 => ?_) (fun q2 => ?_)
      · refine brd (fun q3 => ?_) (fun q3 => ?_)
        · exact Exists.intro () (And.intro (addV_no en) (And.intro trivial H))
        · exact absurd (show a < IntKind.i64.wrap (a + b) by rw [e]; omega) q3
      · exact absurd (show b < 0 by omega) q2
  · have e : IntKind.i64.wrap (a + b) = a + b := w64 (by omega) (by omega)
    have en : in64 (a + b) = true := by unfold in64; rw [decide_eq_true h, decide_eq_true h']; rfl
    have fin : Value.tuple #[.int .i64 (IntKind.i64.wrap (a + b)), .nilIface] = addV a b := by unfold addV; rw [en, e]; rfl
    refine brd (fun q => ?_) (fun q => ?_)
    · refine brd (fun q2 => ?_) (fun q2 => ?_)
      · exact absurd q2 (show ¬ IntKind.i64.wrap (a + b) < a by rw [e]; omega)
      · refine brd (fun q3 => ?_) (fun q3 => ?_)
        · exact absurd q3 (show ¬ b < 0 by omega)
        · exact Exists.intro () (And.intro fin (And.intro trivial H))
    · refine brd (fun q2 => ?_) (fun q2 => ?_)
      · refine brd (fun q3 => ?_) (fun q3 => ?_)
        · exact absurd q3 (show ¬ a < IntKind.i64.wrap (a + b) by rw [e]; omega)
        · exact Exists.intro () (And.intro fin (And.intro trivial H))
      · exact Exists.intro () (And.intro fin (And.intro trivial H))
end Go.Proofs.YtfemfomgmopibaaGreatDoor
/- An entry made of legs: the walk. -/
namespace Go.Proofs.YtfemfomgmopibaaGreatDoor
open Go Go.Proofs Go.Wk
def sumGo : List Leg → List (Int × Int) → Option (List (Int × Int))
  | [], m => some m
  | l :: r, m => if in64 ((lk l.acct m).getD 0 + l.amt) then sumGo r (putL l.acct ((lk l.acct m).getD 0 + l.amt) m) else none
@[reducible] def pairL (p : Int × Int) : Leg := ⟨p.1, p.2⟩
/-- What 'Make' makes of legs. -/
def made (legs out : List Leg) : Prop := match sumGo legs [] with
  | none => out = []
  | some m => out.Perm (m.map pairL) ∧ srt out
@[reducible] def entC (k : Key) (A : Option Addr) (n c : Nat) : List Value := [.int .u32 k.loan, .int .i32 k.day, .int .u8 k.kind, .int .u32 k.seq, .slice A n c]
@[reducible] def zeroC : List Value := [.int .u32 0, .int .i32 0, .int .u8 0, .int .u32 0, .slice none 0 0]
structure SV where
  A : Option Addr
  n : Nat
  c : Nat
theorem mem_putL {κ ν : Type} [DecidableEq κ] {k : κ} {v : ν} : ∀ {l : List (κ × ν)} {p : κ × ν}, p ∈ putL k v l → p = (k, v) ∨ p ∈ l
  | [], p, h => by simpa [putL] using h
  | q :: l, p, h => by
    unfold putL at h
    split at h
    · rcases List.mem_cons.1 h with h | h
      · exact .inl h
      · exact .inr (List.mem_cons_of_mem _ h)
    · rcases List.mem_cons.1 h with h | h
      · exact .inr (h ▸ List.mem_cons_self)
      · exact (mem_putL h).imp id (List.mem_cons_of_mem _)
theorem len_putL {κ ν : Type} [DecidableEq κ] {k : κ} {v : ν} : ∀ {l : List (κ × ν)}, (putL k v l).length ≤ l.length + 1
  | [] => by simp [putL]
  | q :: l => by
    unfold putL
    split
    · simp
    · simp only [List.length_cons]; have := len_putL (k := k) (v := v) (l := l); omega
theorem lk_mem {κ ν : Type} [DecidableEq κ] {k : κ} {v : ν} : ∀ {l : List (κ × ν)}, lk k l = some v → (k, v) ∈ l
  | [], h => by cases h
  | q :: l, h => by
    unfold lk at h
    split at h
    · rename_i hk
      rw [← hk, ← Option.some.inj h]; exact List.mem_cons_self
    · exact List.mem_cons_of_mem _ (lk_mem h)
theorem make (k : Key) (A : Option Addr) (n c : Nat) (legs : List Leg) (hn : legs.length ≤ 12) (w : World) (M I : BS) (hM : ∀ b, ¬ M b) (H : Hp ⟨w, M, I⟩ [] [Sl legR (.slice A n c) legs] w) :
    Ctr Tryz.prog 11 [keyV k, .slice A n c] w M I (fun a : SV × List Leg => .agg #[.int .u32 k.loan, .int .i32 k.day, .int .u8 k.kind, .int .u32 k.seq, .slice a.1.A a.1.n a.1.c]) (fun a => made legs a.2) (fun _ => []) (fun a => [Sl legR (.slice a.1.A a.1.n a.1.c) a.2]) := by
  obtain ⟨hnl, _, _⟩ := H.sll (A := A) (n := n) (c := c)
  refine Exe.of_ev tok Tryz.call11 Tryz.func11 rfl rfl rfl ?_
  refine box_as H (keyC k) rfl fun x w1 H1 => ?_
  refine alloc_as tok H1 zeroC rfl rfl rfl fun r w2 H2 => ?_
  refine makeMap_rule H2 (fun n : Int => Value.int .u8 n) (fun n : Int => Value.int .i64 n) fun mm w3 H3 => ?_
  refine loop_rule tok (σ := Nat × List (Int × Int)) 549755749248 (fun s => [(16, .int .i64 s.1)])
    (fun s w' => s.1 ≤ legs.length ∧ s.2.length ≤ s.1 ∧ (∀ p, p ∈ s.2 → inK .u8 p.1 ∧ inK .i64 p.2) ∧ sumGo legs [] = sumGo (legs.drop s.1) s.2 ∧
      Hp ⟨w, M, I⟩ [mapO mm (fun n : Int => Value.int .u8 n) (fun n : Int => Value.int .i64 n) s.2, blk r zeroC 39, blk x (keyC k) 26] [Sl legR (.slice A n c) legs] w') (fun s => legs.length - s.1) (0, []) rfl rfl ⟨rfl, trivial⟩
    ⟨Nat.zero_le _, Nat.le_refl _, by simp, rfl, H3⟩ ?_
  rintro ⟨i, m⟩ j w4 ⟨hi, hml, hmr, hsum, H4⟩
  simp only at hi hml hmr hsum H4
  refine brd (fun h5 => ?_) (fun h5 => ?_)
  · refine idx_rule tok H4 rfl rfl rfl (by omega) h5 fun eb eo y hy H5 => ?_
    refine ldp_rule tok H5 rfl rfl rfl fun _ hok H6 => ?_
    refine alloc_rule tok H6 rfl rfl fun lb w5 H7 => ?_
    refine store_as tok H7 [.int .u8 y.acct, .int .i64 y.amt] rfl rfl rfl rfl rfl fun w6 H8 => ?_
    refine load_rule tok H8 rfl ?_
    have hy' : legs[i]? = some y := by simpa using hy
    have hd : legs.drop i = y :: legs.drop (i + 1) := by
      obtain ⟨hj, _⟩ := List.getElem?_eq_some_iff.1 hy'
      rw [List.drop_eq_getElem_cons hj]
      rw [List.getElem?_eq_getElem hj] at hy'
      rw [Option.some.inj hy']
    have hz : inK .i64 ((lk y.acct m).getD 0) := by
      cases hl : lk y.acct m with
      | none => exact ⟨by simp [kLo], by simp [kHi]⟩
      | some v => exact (hmr _ (lk_mem hl)).2
    refine lookup_rule tok H8 (k := y.acct) (v := .int .i64 ((lk y.acct m).getD 0)) rfl rfl rfl (int_keys tok rfl) rfl ?_ ?_
    · cases lk y.acct m <;> rfl
    refine load_rule tok H8 rfl ?_
    rcases (show in64 ((lk y.acct m).getD 0 + y.amt) = true ∨ in64 ((lk y.acct m).getD 0 + y.amt) = false by cases in64 ((lk y.acct m).getD 0 + y.amt) <;> simp) with en | en
    · refine call_rule H8 (fun M I _ h => (addV_ok en).symm ▸ add _ _ hz hok.2 _ M I h) fun _ w7 _ H9 => ?_
      refine load_rule tok H9 rfl ?_
      refine mapUpd_rule tok H9 (k := y.acct) (v := (lk y.acct m).getD 0 + y.amt) rfl (int_keys tok rfl) rfl rfl fun w8 H10 => ?_
      refine Exists.intro (i + 1, putL y.acct ((lk y.acct m).getD 0 + y.amt) m) (And.intro ⟨?_, trivial⟩ (And.intro ?_ ⟨?_, ?_, ?_, ?_, H10.keep⟩))
      · show Value.int .i64 (IntKind.i64.wrap (i + 1)) = _
        rw [w64 (by omega) (by omega)]; rfl
      · simp only; omega
      · simp only; omega
      · have := len_putL (k := y.acct) (v := (lk y.acct m).getD 0 + y.amt) (l := m); simp only; omega
      · intro p hp
        rcases mem_putL hp with rfl | hp
        · simp only [in64, Bool.and_eq_true, decide_eq_true_eq] at en
          exact ⟨hok.1, by simp only [inK, kLo, kHi]; exact en⟩
        · exact hmr p hp
      · rw [hsum, hd, sumGo, if_pos en]
    · refine call_rule H8 (fun M I _ h => (addV_no en).symm ▸ add _ _ hz hok.2 _ M I h) fun _ w7 _ H9 => ?_
      refine load_rule tok H9 (v := keyV k) rfl ?_
      refine store_as tok H9 (entC k none 0 0) rfl rfl rfl rfl rfl fun w8 H10 => ?_
      refine Exists.intro ⟨r, 0, none⟩ (Exists.intro (.agg #[.int .u32 k.loan, .int .i32 k.day, .int .u8 k.kind, .int .u32 k.seq, .slice none 0 0]) (And.intro rfl (And.intro (Hp.ld (T := tb) tok H10 rfl) ?_)))
      refine Exists.intro (⟨none, 0, 0⟩, []) (And.intro rfl (And.intro ?_ (Hp.keep (Hp.slNil legR H10))))
      unfold made
      rw [hsum, hd, sumGo, if_neg (by rw [en]; simp)]
  · have hii : i = legs.length := by omega
    have hsm : sumGo legs [] = some m := by rw [hsum, hii, List.drop_length, sumGo]
    refine load_rule tok H4 (v := keyV k) rfl ?_
    refine alloc_as tok H4 zeroC rfl rfl rfl fun o w5 H5 => ?_
    refine store_as tok H5 (entC k none 0 0) rfl rfl rfl rfl rfl fun w6 H6 => ?_
    refine range_rule tok H6 rfl fun it w7 H7 => ?_
    have H7' : Hp ⟨w, M, I⟩ [row 43 2 (.slice none 0 0) 0 [], rngO mm it (fun n : Int => Value.int .u8 n) (fun n : Int => Value.int .i64 n) m m none, blk o (entC k none 0 0) 39, blk r zeroC 39, blk x (keyC k) 26] [] w7 := (Hp.nil H7 43 2).keep
    refine loop_rule tok (σ := (List Leg × List (Int × Int)) × Option (Int × Int) × SV) 72048797944911872 (fun s => [])
      (fun s w' => (s.1.1 ++ s.1.2.map pairL).Perm (m.map pairL) ∧ s.1.1.length = s.2.2.n ∧ (s.1.1 = [] → s.2.2.A = none ∧ s.2.2.c = 0) ∧
        Hp ⟨w, M, I⟩ [row 43 2 (.slice s.2.2.A s.2.2.n s.2.2.c) s.2.2.n (legsC s.1.1), rngO mm it (fun n : Int => Value.int .u8 n) (fun n : Int => Value.int .i64 n) m s.1.2 s.2.1, blk o (entC k s.2.2.A s.2.2.n s.2.2.c) 39, blk r zeroC 39, blk x (keyC k) 26] [] w') (fun s => s.1.2.length) (([], m), none, ⟨none, 0, 0⟩) rfl rfl trivial
      ⟨by simp, rfl, fun _ => ⟨rfl, rfl⟩, H7'⟩ ?_
    rintro ⟨⟨dn, lf⟩, cur, A1, n1, c1⟩ j2 w8 ⟨hpm, hdl, hnil, H8⟩
    simp only at hpm hdl hnil H8
    refine next_rule H8 (fun hl => ?_) fun a p b w9 hl H9 => ?_
    · subst hl
      simp only [List.map_nil, List.append_nil] at hpm
      refine load_rule tok H8 (v := .slice A1 n1 c1) rfl ?_
      have hl12 : dn.length ≤ 12 := by have := hpm.length_eq; simp at this; omega
      rcases (show dn = [] ∨ dn ≠ [] by cases dn <;> simp) with hd0 | hd0
      · obtain ⟨rfl, rfl⟩ := hnil hd0
        subst hd0
        obtain rfl : 0 = n1 := hdl
        refine call_rule H8 (fun M I _ h => sortNil _ M I h) fun _ w9 _ H9 => ?_
        refine load_rule tok H9 (v := .agg #[.int .u32 k.loan, .int .i32 k.day, .int .u8 k.kind, .int .u32 k.seq, .slice none 0 0]) rfl ?_
        refine store_as tok H9 (entC k none 0 0) rfl rfl rfl rfl rfl fun w10 H10 => ?_
        refine Exists.intro ⟨r, 0, none⟩ (Exists.intro (.agg #[.int .u32 k.loan, .int .i32 k.day, .int .u8 k.kind, .int .u32 k.seq, .slice none 0 0]) (And.intro rfl (And.intro (Hp.ld (T := tb) tok H10 rfl) ?_)))
        refine Exists.intro (⟨none, 0, 0⟩, []) (And.intro rfl (And.intro ?_ (Hp.keep (Hp.slNil legR H10))))
        unfold made
        rw [hsm]
        exact ⟨hpm, List.Pairwise.nil⟩
      · obtain ⟨fa, ha⟩ := H8.own (A := row 43 2 (.slice A1 n1 c1) n1 (legsC dn))
        obtain ⟨A1', c1', e1, _, _, hb⟩ := row_shape ha
        have hn0 : n1 ≠ 0 := by rw [← hdl]; exact fun h => hd0 (List.length_eq_zero_iff.1 h)
        obtain ⟨b1, rfl⟩ := hb hn0
        injection e1 with e1 e2 e3
        subst e1
        refine call_rule H8 (fun M I _ h => sortFew b1 n1 c1 (by omega) dn hdl _ M I h) fun l w9 hφ H9 => ?_
        obtain ⟨hlp, hls⟩ := hφ
        refine load_rule tok H9 (v := .agg #[.int .u32 k.loan, .int .i32 k.day, .int .u8 k.kind, .int .u32 k.seq, .slice (some ⟨b1, 0, none⟩) n1 c1]) rfl ?_
        refine store_as tok H9 (entC k (some ⟨b1, 0, none⟩) n1 c1) rfl rfl rfl rfl rfl fun w10 H10 => ?_
        refine Exists.intro ⟨r, 0, none⟩ (Exists.intro (.agg #[.int .u32 k.loan, .int .i32 k.day, .int .u8 k.kind, .int .u32 k.seq, .slice (some ⟨b1, 0, none⟩) n1 c1]) (And.intro rfl (And.intro (Hp.ld (T := tb) tok H10 rfl) ?_)))
        have hcl : ∀ i x, l[i]? = some x → ∃ p : Unit, (inK .u8 x.acct ∧ inK .i64 x.amt) ∧ ((legsC l).drop (i * 2)).take 2 = [.int .u8 x.acct, .int .i64 x.amt] ∧ ([] : List Fact) = [] := fun i x hx => by
          obtain ⟨hj, _⟩ := List.getElem?_eq_some_iff.1 hx
          have hm : x ∈ l := List.mem_of_getElem? hx
          obtain ⟨q, hq, rfl⟩ := List.mem_map.1 ((hlp.trans hpm).mem_iff.1 hm)
          refine ⟨(), hmr q hq, ?_, rfl⟩
          rw [legsC_drop, List.drop_eq_getElem_cons hj]
          rw [List.getElem?_eq_getElem hj] at hx
          rw [Option.some.inj hx]
          rfl
        have H11 := (H10.addCl legR (cs := legsC l) (xs := l) (legsC_len l) hcl).frzRow (v := .slice (some ⟨b1, 0, none⟩) n1 c1) (xs := l) legR hM rfl (by decide)
        refine Exists.intro (⟨some ⟨b1, 0, none⟩, n1, c1⟩, l) (And.intro rfl (And.intro ?_ (Hp.keep H11)))
        unfold made
        rw [hsm]
        exact ⟨hlp.trans hpm, hls⟩
    · refine entry_rule H9 ?_
      refine load_rule tok H9 (v := .slice A1 n1 c1) rfl ?_
      refine slice_as tok H9 [.int .u8 p.1, .int .i64 p.2] rfl rfl rfl rfl rfl rfl fun g w10 H10 => ?_
      have hl12 : m.length ≤ 12 := by omega
      have hn12 : n1 + 1 ≤ 12 := by
        have := hpm.length_eq
        simp only [List.length_append, List.length_map, hl, List.length_cons] at this
        omega
      refine append_rule (v := .slice A1 n1 c1) (b := g) (m := 1) (c := 1) tok H10 rfl rfl rfl rfl rfl rfl rfl rfl ?_ (by omega) fun A2 c2 w11 H11 => ?_
      · show (n1 + 1) * 16 ≤ _
        omega
      refine store_as tok H11 (entC k A2 (n1 + 1) c2) rfl rfl rfl rfl rfl fun w12 H12 => ?_
      refine Exists.intro ((dn ++ [pairL p], a ++ b), some p, ⟨A2, n1 + 1, c2⟩) (And.intro trivial (And.intro ?_ ⟨?_, ?_, ?_, ?_⟩))
      · simp only [hl, List.length_append, List.length_cons]; omega
      · refine List.Perm.trans ?_ hpm
        simp only [hl, List.map_append, List.map_cons, List.append_assoc, List.cons_append, List.nil_append]
        refine List.Perm.append_left dn ?_
        exact List.perm_middle.symm
      · simp only [List.length_append, List.length_cons, List.length_nil, hdl]
      · intro h; simp at h
      · have e : legsC (dn ++ [pairL p]) = legsC dn ++ [.int .u8 p.1, .int .i64 p.2] := by rw [legsC_app]; rfl
        simp only [e]
        exact H12.keep
end Go.Proofs.YtfemfomgmopibaaGreatDoor
/- May an entry be: the walk. -/
namespace Go.Proofs.YtfemfomgmopibaaGreatDoor
open Go Go.Proofs Go.Wk
def dayB (d : Int) : Bool := decide (0 ≤ d) && decide (d ≤ 3652058)
theorem dayRight (d : Int) : CB 63 [.int .i32 d] (.bool (dayB d)) := by
  intro w M I H
  refine Exe.of_ev tok Tryz.call63 Tryz.func63 rfl rfl rfl ?_
  refine brd (fun h => ?_) (fun h => ?_)
  · refine Exists.intro () (And.intro (congrArg Value.bool ?_) (And.intro trivial H))
    unfold dayB
    rw [decide_eq_true h]; rfl
  · refine Exists.intro () (And.intro (congrArg Value.bool ?_) (And.intro trivial H))
    unfold dayB
    rw [decide_eq_false h]; rfl
def noB (s : ByteArray) : Bool := s.toList == (⟨#[]⟩ : ByteArray).toList
def rightGo (s last : Int) : List Leg → Bool
  | [] => s == 0
  | l :: r => bif in64 (s + l.amt) then (bif decide (l.acct ≤ last) then false else bif noB (accName l.acct) then false else rightGo (s + l.amt) l.acct r) else false
def rightB (k : Key) (ls : List Leg) : Bool := bif noB (kindName k.kind) then false else bif !dayB k.day then false else bif (ls.length : Int) == 0 then false else bif decide (8 < (ls.length : Int)) then false else rightGo 0 0 ls
theorem right (k : Key) (hk : inK .u8 k.kind) (A : Option Addr) (n c : Nat) (ls : List Leg) (w : World) (M I : BS) (H : Hp ⟨w, M, I⟩ [] [Sl legR (.slice A n c) ls] w) :
    Ctr Tryz.prog 37 [.agg #[.int .u32 k.loan, .int .i32 k.day, .int .u8 k.kind, .int .u32 k.seq, .slice A n c]] w M I (fun _ : Unit => .bool (rightB k ls)) (fun _ => True) (fun _ => []) (fun _ => []) := by
  obtain ⟨hn, hc, hc2⟩ := H.sll (A := A) (n := n) (c := c)
  refine Exe.of_ev tok Tryz.call37 Tryz.func37 rfl rfl rfl ?_
  refine box_as H (entC k A n c) rfl fun b w1 H1 => ?_
  refine load_rule tok H1 rfl ?_
  refine call_rule H1 (fun M I _ h => kind k.kind hk.1 hk.2 _ M I h) fun _ w2 _ H2 => ?_
  refine br (fun h => ?_) (fun h => ?_)
  · have h : noB (kindName k.kind) = true := h
    refine Exists.intro () (And.intro (congrArg Value.bool ?_) (And.intro trivial (Hp.keep H2)))
    unfold rightB; rw [h]; rfl
  have h : noB (kindName k.kind) = false := h
  refine load_rule tok H2 rfl ?_
  refine call_rule H2 (fun M I _ h => dayRight k.day _ M I h) fun _ w3 _ H3 => ?_
  refine br (fun h2 => ?_) (fun h2 => ?_)
  · refine Exists.intro () (And.intro (congrArg Value.bool ?_) (And.intro trivial (Hp.keep H3)))
    unfold rightB; rw [h, h2]; rfl
  refine load_rule tok H3 rfl ?_
  refine br (fun h3 => ?_) (fun h3 => ?_)
  · have h3 : ((ls.length : Int) == 0) = true := by rw [← hn]; exact h3
    refine Exists.intro () (And.intro (congrArg Value.bool ?_) (And.intro trivial (Hp.keep H3)))
    unfold rightB; rw [h, h2, h3]; rfl
  have h3 : ((ls.length : Int) == 0) = false := by rw [← hn]; exact h3
  refine load_rule tok H3 rfl ?_
  refine brd (fun h4 => ?_) (fun h4 => ?_)
  · have h4 : decide (8 < (ls.length : Int)) = true := by rw [← hn]; exact decide_eq_true h4
    refine Exists.intro () (And.intro (congrArg Value.bool ?_) (And.intro trivial (Hp.keep H3)))
    unfold rightB; rw [h, h2, h3, h4]; rfl
  have h4 : decide (8 < (ls.length : Int)) = false := by rw [← hn]; exact decide_eq_false h4
  have hR : rightB k ls = rightGo 0 0 ls := by unfold rightB; rw [h, h2, h3, h4]; rfl
  rw [hR]
  refine load_rule tok H3 rfl ?_
  refine loop_rule tok (σ := Nat × Int × Int) 9223372002495037660 (fun s => [(3, .int .i64 s.2.1), (4, .int .u8 s.2.2), (35, .int .i64 s.1)])
    (fun s w' => s.1 ≤ ls.length ∧ inK .i64 s.2.1 ∧ inK .u8 s.2.2 ∧ rightGo 0 0 ls = rightGo s.2.1 s.2.2 (ls.drop s.1) ∧ Hp ⟨w, M, I⟩ [blk b (entC k A n c) 39] [Sl legR (.slice A n c) ls] w') (fun s => ls.length - s.1) (0, 0, 0) rfl rfl ⟨rfl, rfl, rfl, trivial⟩ ?_ ?_
  · exact ⟨Nat.zero_le _, ⟨by simp [kLo], by simp [kHi]⟩, ⟨by simp [kLo], by simp [kHi]⟩, rfl, H3⟩
  rintro ⟨i, s, last⟩ j w4 ⟨hi, hs, hl, hg, H4⟩
  simp only at hi hs hl hg H4
  refine brd (fun h5 => ?_) (fun h5 => ?_)
  · refine idx_rule tok H4 rfl rfl rfl (by omega) h5 fun eb eo x hx H5 => ?_
    refine ldp_rule tok H5 rfl rfl rfl fun _ hok H6 => ?_
    refine alloc_rule tok H6 rfl rfl fun lb w5 H7 => ?_
    refine store_as tok H7 [.int .u8 x.acct, .int .i64 x.amt] rfl rfl rfl rfl rfl fun w6 H8 => ?_
    refine load_rule tok H8 rfl ?_
    have hx' : ls[i]? = some x := by simpa using hx
    have hd : ls.drop i = x :: ls.drop (i + 1) := by
      obtain ⟨hj, _⟩ := List.getElem?_eq_some_iff.1 hx'
      rw [List.drop_eq_getElem_cons hj]
      rw [List.getElem?_eq_getElem hj] at hx'
      rw [Option.some.inj hx']
    rcases (show in64 (s + x.amt) = true ∨ in64 (s + x.amt) = false by cases in64 (s + x.amt) <;> simp) with en | en
    · refine call_rule H8 (fun M I _ h => (addV_ok en).symm ▸ add _ _ hs hok.2 _ M I h) fun _ w7 _ H9 => ?_
      refine load_rule tok H9 rfl ?_
      refine brd (fun h6 => ?_) (fun h6 => ?_)
      · refine Exists.intro () (And.intro (congrArg Value.bool ?_) (And.intro trivial (Hp.keep H9)))
        rw [hg, hd, rightGo, en, decide_eq_true h6]; rfl
      · refine load_rule tok H9 rfl ?_
        refine call_rule H9 (fun M I _ h => account x.acct hok.1.1 hok.1.2 _ M I h) fun _ w8 _ H10 => ?_
        refine br (fun h7 => ?_) (fun h7 => ?_)
        · have h7 : noB (accName x.acct) = true := h7
          refine Exists.intro () (And.intro (congrArg Value.bool ?_) (And.intro trivial (Hp.keep H10)))
          rw [hg, hd, rightGo, en, decide_eq_false h6, h7]; rfl
        · have h7 : noB (accName x.acct) = false := h7
          refine load_rule tok H10 rfl ?_
          have en' := en
          simp only [in64, Bool.and_eq_true, decide_eq_true_eq] at en'
          refine Exists.intro (i + 1, s + x.amt, x.acct) (And.intro ⟨rfl, rfl, ?_, trivial⟩ (And.intro ?_ ⟨?_, ?_, hok.1, ?_, Hp.keep H10⟩))
          · show Value.int .i64 (IntKind.i64.wrap (i + 1)) = _
            rw [w64 (by omega) (by omega)]; rfl
          · simp only; omega
          · simp only; omega
          · exact ⟨en'.1, en'.2⟩
          · rw [hg, hd, rightGo, en, decide_eq_false h6, h7]; rfl
    · refine call_rule H8 (fun M I _ h => (addV_no en).symm ▸ add _ _ hs hok.2 _ M I h) fun _ w7 _ H9 => ?_
      refine Exists.intro () (And.intro (congrArg Value.bool ?_) (And.intro trivial (Hp.keep H9)))
      rw [hg, hd, rightGo, en]; rfl
  · refine Exists.intro () (And.intro (congrArg Value.bool ?_) (And.intro trivial (Hp.keep H4)))
    have : ls.length ≤ i := by omega
    rw [hg, List.drop_eq_nil_of_le this]; rfl
theorem frzLegs {w : World} {B : Base} {S S' : List Asn} {F : List Fact} (H : Hp B S F w) {n : Nat} {cs : List Value} {t : TypeId} (ls : List Leg) [h1 : TakeB S n cs t S'] (hM : ∀ b, ¬ B.M b) (hc : cs = legsC ls) (hl : ls.length ≤ 100) (hok : ∀ x, x ∈ ls → inK .u8 x.acct ∧ inK .i64 x.amt) :
    Hp B S' (Sl legR (.slice (some ⟨n, 0, none⟩) ls.length ls.length) ls :: F) w := by
  refine H.frzBlk legR ls hM (by omega) (by rw [hc]; exact legsC_len ls) fun i x hx => ?_
  obtain ⟨hj, _⟩ := List.getElem?_eq_some_iff.1 hx
  refine ⟨(), hok x (List.mem_of_getElem? hx), ?_, rfl⟩
  subst hc
  show ((legsC ls).drop (i * 2)).take 2 = _
  rw [legsC_drop, List.drop_eq_getElem_cons hj]
  rw [List.getElem?_eq_getElem hj] at hx
  rw [Option.some.inj hx]
  rfl
end Go.Proofs.YtfemfomgmopibaaGreatDoor
