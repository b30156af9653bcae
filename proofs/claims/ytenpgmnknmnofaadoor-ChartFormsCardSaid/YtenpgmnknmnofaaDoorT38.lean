/- An entry read of bytes: the walk. -/
import Derived.Test.YtenpgmnknmnofaaDoorT37
import Derived.Test.YtenpgmnknmnofaaDoorT31
namespace Go.Proofs.YtenpgmnknmnofaaDoor
open Go Go.Proofs Go.Wk
theorem uintR_le (m : Nat) (t : LS) : (uintR m t).1 ≤ m := by
  unfold uintR
  split
  · exact Nat.zero_le _
  · rename_i h
    exact Nat.le_of_not_lt fun hh => h (.inr hh)
theorem intR_i64 (t : LS) : inK .i64 (intR t).1 := by
  unfold intR
  split
  · exact ⟨by decide, by decide⟩
  · simp only
    split
    · exact ⟨by show (-9223372036854775808 : Int) ≤ _; omega, by show _ ≤ (9223372036854775807 : Int); omega⟩
    · exact ⟨by show (-9223372036854775808 : Int) ≤ _; omega, by show _ ≤ (9223372036854775807 : Int); omega⟩
def legsR : Nat → LS → List Leg × LS
  | 0, t => ([], t)
  | d + 1, t => (⟨((uintR 9 t).1 : Nat), (intR (uintR 9 t).2).1⟩ :: (legsR d (intR (uintR 9 t).2).2).1, (legsR d (intR (uintR 9 t).2).2).2)
@[reducible] def p1 (bs : List Nat) : Nat × LS := uintR 4294967295 ⟨bs, false⟩
@[reducible] def p2 (bs : List Nat) : Nat × LS := uintR 3652058 (p1 bs).2
@[reducible] def p3 (bs : List Nat) : Nat × LS := uintR 7 (p2 bs).2
@[reducible] def p4 (bs : List Nat) : Nat × LS := uintR 4294967295 (p3 bs).2
@[reducible] def p5 (bs : List Nat) : Nat × LS := uintR 8 (p4 bs).2
def pK (bs : List Nat) : Key := ⟨((p1 bs).1 : Nat), ((p2 bs).1 : Nat), ((p3 bs).1 : Nat), ((p4 bs).1 : Nat)⟩
def pL (bs : List Nat) : List Leg := (legsR (p5 bs).1 (p5 bs).2).1
def pT (bs : List Nat) : LS := (legsR (p5 bs).1 (p5 bs).2).2
def prOk (bs : List Nat) : TR → Prop
  | .bad c => c = 2 ∧ (endOk (pT bs) && rightB (pK bs) (pL bs)) = false
  | .ok _ => (endOk (pT bs) && rightB (pK bs) (pL bs)) = true
@[reducible] def prF (bs : List Nat) : TR → Fact
  | .bad _ => ttF
  | .ok s => Sl legR (.slice s.A s.n s.c) (pL bs)
theorem u32_of {x : Nat} (h : x ≤ 4294967295) : IntKind.u32.wrap (x : Int) = x := wrap_id ⟨by show (0 : Int) ≤ _; omega, by show _ ≤ (4294967295 : Int); omega⟩
theorem i32_of {x : Nat} (h : x ≤ 2147483647) : IntKind.i32.wrap (x : Int) = x := wrap_id ⟨by show (-2147483648 : Int) ≤ _; omega, by show _ ≤ (2147483647 : Int); omega⟩
theorem pK_in (bs : List Nat) : keyIn (pK bs) := by
  have h1 : (p1 bs).1 ≤ 4294967295 := uintR_le _ _
  have h2 : (p2 bs).1 ≤ 3652058 := uintR_le _ _
  have h3 : (p3 bs).1 ≤ 7 := uintR_le _ _
  have h4 : (p4 bs).1 ≤ 4294967295 := uintR_le _ _
  refine ⟨⟨?_, ?_⟩, ⟨?_, ?_⟩, ⟨?_, ?_⟩, ⟨?_, ?_⟩⟩ <;> simp only [kLo, kHi, pK] <;> omega
set_option maxRecDepth 20000 in
set_option maxHeartbeats 1000000 in
theorem parse (A : Option Addr) (n c : Nat) (bs : List Nat) (hn : bs.length ≤ 1000000) (hp : byteIn bs) (w : World) (M I : BS) (hM : ∀ b, ¬ M b) (H : Hp ⟨w, M, I⟩ [] [Sl byteR (.slice A n c) bs] w) :
    Ctr Tryd.prog 14 [.slice A n c] w M I (trV (pK bs)) (prOk bs) (fun _ => []) (fun a => [prF bs a]) := by
  have h1 : (p1 bs).1 ≤ 4294967295 := uintR_le _ _
  have h2 : (p2 bs).1 ≤ 3652058 := uintR_le _ _
  have h3 : (p3 bs).1 ≤ 7 := uintR_le _ _
  have h4 : (p4 bs).1 ≤ 4294967295 := uintR_le _ _
  have h5 : (p5 bs).1 ≤ 8 := uintR_le _ _
  have b1 : byteIn (p1 bs).2.p := uintR_in hp
  have b2 : byteIn (p2 bs).2.p := uintR_in b1
  have b3 : byteIn (p3 bs).2.p := uintR_in b2
  have b4 : byteIn (p4 bs).2.p := uintR_in b3
  have b5 : byteIn (p5 bs).2.p := uintR_in b4
  refine Exe.of_ev tok Tryd.call14 Tryd.func14 rfl rfl rfl ?_
  refine alloc_as tok H zeroC rfl rfl rfl fun r w1 H1 => ?_
  refine call_rule H1 (fun M I h0 h => look A n c bs hn _ M I h) fun a => ?_
  rcases a with ⟨l, s0⟩
  intro w2 _ H2
  refine alloc_as tok H2 zeroC rfl rfl rfl fun e w3 H3 => ?_
  have H3 : Hp ⟨w, M, I⟩ [blk e zeroC 29, blk l [.slice s0.A s0.n s0.c, .bool false] 107, blk r zeroC 29] [Sl byteR (svV s0) bs] w3 := H3.keep
  refine call_rule H3 (fun M I _ h => uintL l s0 ⟨bs, false⟩ 4294967295 hp _ M I h) fun s1 w4 _ H4 => ?_
  refine call_rule H4 (fun M I _ h => uintL l s1 (p1 bs).2 3652058 b1 _ M I h) fun s2 w5 _ H5 => ?_
  refine store_as tok H5 [.int .u32 (IntKind.u32.wrap ((p1 bs).1 : Nat)), .int .i32 0, .int .u8 0, .int .u32 0, .slice none 0 0] rfl rfl rfl rfl rfl fun w6 H6 => ?_
  refine store_as tok H6 [.int .u32 (IntKind.u32.wrap ((p1 bs).1 : Nat)), .int .i32 (IntKind.i32.wrap ((p2 bs).1 : Nat)), .int .u8 0, .int .u32 0, .slice none 0 0] rfl rfl rfl rfl rfl fun w7 H7 => ?_
  refine call_rule H7 (fun M I _ h => uintL l s2 (p2 bs).2 7 b2 _ M I h) fun s3 w8 _ H8 => ?_
  refine call_rule H8 (fun M I _ h => uintL l s3 (p3 bs).2 4294967295 b3 _ M I h) fun s4 w9 _ H9 => ?_
  refine store_as tok H9 [.int .u32 (IntKind.u32.wrap ((p1 bs).1 : Nat)), .int .i32 (IntKind.i32.wrap ((p2 bs).1 : Nat)), .int .u8 (IntKind.u8.wrap ((p3 bs).1 : Nat)), .int .u32 0, .slice none 0 0] rfl rfl rfl rfl rfl fun w10 H10 => ?_
  refine store_as tok H10 [.int .u32 (IntKind.u32.wrap ((p1 bs).1 : Nat)), .int .i32 (IntKind.i32.wrap ((p2 bs).1 : Nat)), .int .u8 (IntKind.u8.wrap ((p3 bs).1 : Nat)), .int .u32 (IntKind.u32.wrap ((p4 bs).1 : Nat)), .slice none 0 0] rfl rfl rfl rfl rfl fun w11 H11 => ?_
  have ek : [Value.int .u32 (IntKind.u32.wrap ((p1 bs).1 : Nat)), .int .i32 (IntKind.i32.wrap ((p2 bs).1 : Nat)), .int .u8 (IntKind.u8.wrap ((p3 bs).1 : Nat)), .int .u32 (IntKind.u32.wrap ((p4 bs).1 : Nat)), .slice none 0 0] = entC (pK bs) none 0 0 := by
    rw [u32_of h1, i32_of (by omega), u8_of (by omega), u32_of h4]; rfl
  rw [ek] at H11
  refine call_rule H11 (fun M I _ h => uintL l s4 (p4 bs).2 8 b4 _ M I h) fun s5 w12 _ H12 => ?_
  have H12' : Hp ⟨w, M, I⟩ [row 40 2 (.slice none 0 0) 0 [], blk l [.slice s5.A s5.n s5.c, .bool (p5 bs).2.bad] 107, blk e (entC (pK bs) none 0 0) 29, blk r zeroC 29] [Sl byteR (svV s5) (p5 bs).2.p] w12 := (Hp.nil H12 40 2).keep
  have H12 : Hp ⟨w, M, I⟩ [row 40 2 (.slice none 0 0) 0 (legsC []), blk l [.slice s5.A s5.n s5.c, .bool (p5 bs).2.bad] 107, blk e (entC (pK bs) none 0 0) 29, blk r zeroC 29] [Sl byteR (svV s5) (p5 bs).2.p] w12 := H12'
  refine loop_rule tok (σ := Nat × List Leg × LS × SV × SV) 70366596694080 (fun s => [(31, .int .u64 s.1)])
    (fun s w' => s.1 ≤ (p5 bs).1 ∧ s.2.2.2.2.n = s.2.1.length ∧ s.2.1.length = s.1 ∧ byteIn s.2.2.1.p ∧ (∀ x, x ∈ s.2.1 → legIn x) ∧ s.2.1 ++ (legsR ((p5 bs).1 - s.1) s.2.2.1).1 = pL bs ∧ (legsR ((p5 bs).1 - s.1) s.2.2.1).2 = pT bs ∧
      Hp ⟨w, M, I⟩ [row 40 2 (.slice s.2.2.2.2.A s.2.2.2.2.n s.2.2.2.2.c) s.2.2.2.2.n (legsC s.2.1), blk l [.slice s.2.2.2.1.A s.2.2.2.1.n s.2.2.2.1.c, .bool s.2.2.1.bad] 107, blk e (entC (pK bs) s.2.2.2.2.A s.2.2.2.2.n s.2.2.2.2.c) 29, blk r zeroC 29] [Sl byteR (svV s.2.2.2.1) s.2.2.1.p] w') (fun s => (p5 bs).1 - s.1) (0, [], (p5 bs).2, s5, ⟨none, 0, 0⟩) rfl rfl ⟨rfl, trivial⟩
    ⟨Nat.zero_le _, rfl, rfl, b5, (fun x hx => by cases hx), rfl, rfl, H12⟩ ?_
  rintro ⟨i, dn, t, s, ⟨A1, n1, c1⟩⟩ j w13 ⟨hi, hn1, hdl, hbt, hin, hL, hT, H13⟩
  simp only at hi hn1 hdl hbt hin hL hT H13
  refine brd (fun q => ?_) (fun q => ?_)
  · have q : (i : Int) < ((p5 bs).1 : Nat) := q
    have h9 : (uintR 9 t).1 ≤ 9 := uintR_le _ _
    have bt1 : byteIn (uintR 9 t).2.p := uintR_in hbt
    refine call_rule H13 (fun M I _ h => uintL l s t 9 hbt _ M I h) fun s6 w14 _ H14 => ?_
    have H14 : Hp ⟨w, M, I⟩ [row 40 2 (.slice A1 n1 c1) n1 (legsC dn), blk l [.slice s6.A s6.n s6.c, .bool (uintR 9 t).2.bad] 107, blk e (entC (pK bs) A1 n1 c1) 29, blk r zeroC 29] [Sl byteR (svV s6) (uintR 9 t).2.p] w14 := H14.keep
    refine draw_rule (A := [blk l [.slice s6.A s6.n s6.c, .bool (uintR 9 t).2.bad] 107, blk e (entC (pK bs) A1 n1 c1) 29, row 40 2 (.slice A1 n1 c1) n1 (legsC dn)]) tok tdr H14 [3, 4, 0, 1, 2, 5, 6, 7, 8, 9] [0, 1, 0, 0, 8, 28, 60, 127, 255, 511] rfl ?_
    refine imp_rule (fun X wx h => call_rule h (fun M I _ h => intL l s6 (uintR 9 t).2 bt1 _ M I h) fun s7 w1 _ H1 => imp_done H1 ?_)
    refine pass_kept [blk e (entC (pK bs) A1 n1 c1) 29] _ (fun X w h => load_rule tok h (v := .slice A1 n1 c1) rfl ⟨rfl, rfl⟩) ?_
    have e9 : IntKind.u8.wrap ((uintR 9 t).1 : Nat) = ((uintR 9 t).1 : Nat) := u8_of (by omega)
    refine fresh_slice tok [.int .u8 (IntKind.u8.wrap ((uintR 9 t).1 : Nat)), .int .i64 (intR (uintR 9 t).2).1] rfl rfl rfl rfl rfl rfl rfl fun g => ?_
    refine imp_rule (fun X wx h => append_rule (v := .slice A1 n1 c1) (b := g) (m := 1) (c := 1) tok h rfl rfl rfl rfl rfl rfl rfl rfl (by show (n1 + 1) * 16 ≤ _; omega) (by omega) fun A2 c2 w1 H1 => imp_done H1 ?_)
    refine imp_rule (fun X wx h => store_as tok h (entC (pK bs) A2 (n1 + 1) c2) rfl rfl rfl rfl rfl fun w1 H1 => imp_done H1 ?_)
    refine done_rule fun w15 H15 => ?_
    have el : legsC dn ++ [.int .u8 (IntKind.u8.wrap ((uintR 9 t).1 : Nat)), .int .i64 (intR (uintR 9 t).2).1] = legsC (dn ++ [⟨((uintR 9 t).1 : Nat), (intR (uintR 9 t).2).1⟩]) := by
      rw [e9, legsC_app]; rfl
    have H16 : Hp ⟨w, M, I⟩ [row 40 2 (.slice A2 (n1 + 1) c2) (n1 + 1) (legsC dn ++ [.int .u8 (IntKind.u8.wrap ((uintR 9 t).1 : Nat)), .int .i64 (intR (uintR 9 t).2).1]), blk l [.slice s7.A s7.n s7.c, .bool (intR (uintR 9 t).2).2.bad] 107, blk e (entC (pK bs) A2 (n1 + 1) c2) 29, blk r zeroC 29] [Sl byteR (svV s7) (intR (uintR 9 t).2).2.p] w15 := H15.keep
    rw [el] at H16
    have hst : legsR ((p5 bs).1 - i) t = (⟨((uintR 9 t).1 : Nat), (intR (uintR 9 t).2).1⟩ :: (legsR ((p5 bs).1 - (i + 1)) (intR (uintR 9 t).2).2).1, (legsR ((p5 bs).1 - (i + 1)) (intR (uintR 9 t).2).2).2) := by
      rw [show (p5 bs).1 - i = ((p5 bs).1 - (i + 1)) + 1 by omega, legsR]
    rw [hst] at hL hT
    refine Exists.intro (i + 1, dn ++ [⟨((uintR 9 t).1 : Nat), (intR (uintR 9 t).2).1⟩], (intR (uintR 9 t).2).2, s7, ⟨A2, n1 + 1, c2⟩) (And.intro ⟨?_, trivial⟩ (And.intro ?_ ⟨?_, ?_, ?_, ?_, ?_, ?_, ?_, H16⟩))
    · show Value.int .u64 (IntKind.u64.wrap ((i : Int) + 1)) = Value.int .u64 ((i + 1 : Nat) : Int)
      rw [wrap_id (k := .u64) ⟨by show (0 : Int) ≤ _; omega, by show _ ≤ (18446744073709551615 : Int); omega⟩]; rfl
    · simp only; omega
    · simp only; omega
    · simp only [List.length_append, List.length_cons, List.length_nil]; omega
    · simp only [List.length_append, List.length_cons, List.length_nil]; omega
    · exact intR_in bt1
    · intro x hx
      simp only at hx
      rcases List.mem_append.1 hx with hx | hx
      · exact hin x hx
      · rw [List.mem_singleton] at hx
        subst hx
        exact ⟨⟨by show (0 : Int) ≤ ((uintR 9 t).1 : Nat); omega, by show (((uintR 9 t).1 : Nat) : Int) ≤ 255; omega⟩, intR_i64 _⟩
    · simp only [List.append_assoc, List.cons_append, List.nil_append]
      exact hL
    · exact hT
  · have q : ¬ (i : Int) < ((p5 bs).1 : Nat) := q
    have hii : (p5 bs).1 - i = 0 := by omega
    rw [hii] at hL hT
    have hL : dn = pL bs := by rw [← hL]; simp [legsR]
    have hT : t = pT bs := hT
    subst hL hT
    have H14 := frzLegsRow H13 (v := .slice A1 n1 c1) (pL bs) hM hin
    refine Or.elim (show endOk (pT bs) = true ∨ endOk (pT bs) = false by cases endOk (pT bs) <;> simp) (fun he => ?_) (fun he => ?_)
    · have ee : (if endOk (pT bs) = true then Value.nilIface else .iface 36 (.int .i64 2)) = .nilIface := if_pos he
      refine call_rule H14 (fun M I _ h => ee ▸ endL l s (pT bs) _ M I h) fun _ w15 _ H15 => ?_
      refine load_rule tok H15 (v := .agg #[.int .u32 (pK bs).loan, .int .i32 (pK bs).day, .int .u8 (pK bs).kind, .int .u32 (pK bs).seq, .slice A1 n1 c1]) rfl ?_
      refine call_rule H15 (fun M I _ h => right (pK bs) (pK_in bs).2.2.1 A1 n1 c1 (pL bs) _ M I h) fun _ w16 _ H16 => ?_
      refine br (fun q2 => ?_) (fun q2 => ?_)
      · have q2 : rightB (pK bs) (pL bs) = false := by simpa using q2
        refine store_as tok H16 zeroC rfl rfl rfl rfl rfl fun w17 H17 => ?_
        refine Exists.intro ⟨r, 0, none⟩ (Exists.intro (.agg #[.int .u32 0, .int .i32 0, .int .u8 0, .int .u32 0, .slice none 0 0]) (And.intro rfl (And.intro (Hp.ld (T := tb) tok H17 rfl) ?_)))
        exact Exists.intro (.bad 2) (And.intro rfl (And.intro ⟨rfl, by rw [q2, Bool.and_false]⟩ (Hp.keep (H17.addTt))))
      · have q2 : rightB (pK bs) (pL bs) = true := by simpa using q2
        refine load_rule tok H16 (v := .agg #[.int .u32 (pK bs).loan, .int .i32 (pK bs).day, .int .u8 (pK bs).kind, .int .u32 (pK bs).seq, .slice A1 n1 c1]) rfl ?_
        refine store_as tok H16 (entC (pK bs) A1 n1 c1) rfl rfl rfl rfl rfl fun w17 H17 => ?_
        refine Exists.intro ⟨r, 0, none⟩ (Exists.intro (.agg #[.int .u32 (pK bs).loan, .int .i32 (pK bs).day, .int .u8 (pK bs).kind, .int .u32 (pK bs).seq, .slice A1 n1 c1]) (And.intro rfl (And.intro (Hp.ld (T := tb) tok H17 rfl) ?_)))
        have okk : prOk bs (.ok ⟨A1, n1, c1⟩) := by show (endOk (pT bs) && rightB (pK bs) (pL bs)) = true; rw [he, q2]; rfl
        exact Exists.intro (.ok ⟨A1, n1, c1⟩) (And.intro rfl (And.intro okk (Hp.keep H17)))
    · have ee : (if endOk (pT bs) = true then Value.nilIface else .iface 36 (.int .i64 2)) = .iface 36 (.int .i64 2) := if_neg (by rw [he]; simp)
      refine call_rule H14 (fun M I _ h => ee ▸ endL l s (pT bs) _ M I h) fun _ w15 _ H15 => ?_
      refine store_as tok H15 zeroC rfl rfl rfl rfl rfl fun w17 H17 => ?_
      refine Exists.intro ⟨r, 0, none⟩ (Exists.intro (.agg #[.int .u32 0, .int .i32 0, .int .u8 0, .int .u32 0, .slice none 0 0]) (And.intro rfl (And.intro (Hp.ld (T := tb) tok H17 rfl) ?_)))
      exact Exists.intro (.bad 2) (And.intro rfl (And.intro ⟨rfl, by rw [he, Bool.false_and]⟩ (Hp.keep (H17.addTt))))
end Go.Proofs.YtenpgmnknmnofaaDoor
