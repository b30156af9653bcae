/- Numbers in parts of 16 bits, the lowest first: plain laws of the document's product and division. -/
import Derived.Test.YtjlfjjgjghdokaaGreatDoorG1
set_option linter.unusedVariables false
namespace Go.Pl
def val : List Nat → Nat
  | [] => 0
  | x :: r => x + 65536 * val r
theorem val_app : ∀ a b : List Nat, val (a ++ b) = val a + 65536 ^ a.length * val b
  | [], b => by simp [val]
  | x :: a, b => by
    rw [List.cons_append, val, val_app a b, val, List.length_cons, Nat.pow_succ, Nat.mul_add]
    have : 65536 ^ a.length * 65536 * val b = 65536 * (65536 ^ a.length * val b) := by rw [Nat.mul_comm (65536 ^ a.length) 65536, Nat.mul_assoc]
    omega
theorem val_set : ∀ (l : List Nat) (k v old : Nat), l[k]? = some old → val (l.set k v) + 65536 ^ k * old = val l + 65536 ^ k * v
  | [], k, v, old, h => by simp at h
  | x :: l, 0, v, old, h => by
    simp only [List.getElem?_cons_zero, Option.some.injEq] at h
    subst h
    simp only [List.set_cons_zero, val, Nat.pow_zero, Nat.one_mul]
    omega
  | x :: l, k + 1, v, old, h => by
    have ih := val_set l k v old (by simpa using h)
    simp only [List.set_cons_succ, val]
    have e : ∀ z, 65536 ^ (k + 1) * z = 65536 * (65536 ^ k * z) := fun z => by rw [Nat.pow_succ, Nat.mul_comm (65536 ^ k) 65536, Nat.mul_assoc]
    rw [e, e]
    omega
theorem val_add {l : List Nat} {k old d : Nat} (h : l[k]? = some old) : val (l.set k (old + d)) = val l + 65536 ^ k * d := by
  have := val_set l k (old + d) old h
  rw [Nat.mul_add] at this
  omega
theorem val_lt : ∀ (l : List Nat), (∀ x, x ∈ l → x < 65536) → val l < 65536 ^ l.length
  | [], _ => by simp [val]
  | x :: l, h => by
    have h0 := h x List.mem_cons_self
    have ih := val_lt l fun y hy => h y (List.mem_cons_of_mem _ hy)
    rw [val, List.length_cons, Nat.pow_succ]
    have : 65536 * (val l + 1) ≤ 65536 * 65536 ^ l.length := Nat.mul_le_mul_left _ ih
    rw [Nat.mul_comm (65536 ^ l.length)]
    omega
theorem val_zero (n : Nat) : val (List.replicate n 0) = 0 := by
  induction n with
  | zero => rfl
  | succ n ih => rw [List.replicate_succ, val, ih]
theorem val_at : ∀ (l : List Nat) (i x : Nat), (∀ y, y ∈ l → y < 65536) → l[i]? = some x → val l / 65536 ^ i % 65536 = x
  | [], i, x, _, h => by simp at h
  | y :: l, 0, x, hl, h => by
    simp only [List.getElem?_cons_zero, Option.some.injEq] at h
    subst h
    have := hl y List.mem_cons_self
    rw [Nat.pow_zero, Nat.div_one, val]
    omega
  | y :: l, i + 1, x, hl, h => by
    have ih := val_at l i x (fun z hz => hl z (List.mem_cons_of_mem _ hz)) (by simpa using h)
    have := hl y List.mem_cons_self
    rw [Nat.pow_succ, Nat.mul_comm, ← Nat.div_div_eq_div_mul, val]
    have e : (y + 65536 * val l) / 65536 = val l := by omega
    rw [e]
    exact ih
theorem val_take_succ {l : List Nat} {k x : Nat} (h : l[k]? = some x) : val (l.take (k + 1)) = val (l.take k) + 65536 ^ k * x := by
  have hk : k < l.length := (List.getElem?_eq_some_iff.1 h).1
  rw [List.take_add_one, h, val_app, List.length_take, Nat.min_eq_left (by omega)]
  simp [val]
def dig : Nat → Nat → List Nat
  | 0, _ => []
  | k + 1, n => n % 65536 :: dig k (n / 65536)
theorem dig_len : ∀ k n, (dig k n).length = k
  | 0, _ => rfl
  | k + 1, n => by rw [dig, List.length_cons, dig_len]
theorem dig_lt : ∀ k n x, x ∈ dig k n → x < 65536
  | 0, _, x, h => by cases h
  | k + 1, n, x, h => by
    rw [dig] at h
    rcases List.mem_cons.1 h with h | h
    · rw [h]; exact Nat.mod_lt _ (by decide)
    · exact dig_lt k _ x h
theorem dig_val : ∀ k n, n < 65536 ^ k → val (dig k n) = n
  | 0, n, h => by rw [Nat.pow_zero] at h; rw [dig, val]; omega
  | k + 1, n, h => by
    rw [dig, val, dig_val k (n / 65536) (by rw [Nat.pow_succ] at h; exact Nat.div_lt_of_lt_mul (by rw [Nat.mul_comm]; exact h))]
    omega
/-- The parts of two words. -/
def ofL (hi lo : Nat) : List Nat := dig 4 lo ++ dig 4 hi
theorem ofL_len (hi lo : Nat) : (ofL hi lo).length = 8 := by unfold ofL; rw [List.length_append, dig_len, dig_len]
theorem ofL_lt (hi lo : Nat) : ∀ x, x ∈ ofL hi lo → x < 65536 := fun x h => by
  unfold ofL at h
  rcases List.mem_append.1 h with h | h <;> exact dig_lt _ _ x h
def itd (n : Nat) : Nat → Nat
  | 0 => n
  | i + 1 => itd n i / 65536
theorem itd_le (n : Nat) : ∀ i, itd n i ≤ n
  | 0 => Nat.le_refl _
  | i + 1 => Nat.le_trans (Nat.div_le_self _ _) (itd_le n i)
def ofAt (hi lo : Nat) : Nat → List Nat
  | 0 => [0, 0, 0, 0, 0, 0, 0, 0]
  | 1 => [itd lo 0 % 65536, 0, 0, 0, itd hi 0 % 65536, 0, 0, 0]
  | 2 => [itd lo 0 % 65536, itd lo 1 % 65536, 0, 0, itd hi 0 % 65536, itd hi 1 % 65536, 0, 0]
  | 3 => [itd lo 0 % 65536, itd lo 1 % 65536, itd lo 2 % 65536, 0, itd hi 0 % 65536, itd hi 1 % 65536, itd hi 2 % 65536, 0]
  | _ => [itd lo 0 % 65536, itd lo 1 % 65536, itd lo 2 % 65536, itd lo 3 % 65536, itd hi 0 % 65536, itd hi 1 % 65536, itd hi 2 % 65536, itd hi 3 % 65536]
theorem ofAt_len (hi lo : Nat) (i : Nat) (h : i ≤ 4) : (ofAt hi lo i).length = 8 := by
  match i, h with
  | 0, _ => rfl
  | 1, _ => rfl
  | 2, _ => rfl
  | 3, _ => rfl
  | 4, _ => rfl
theorem ofAt_step (hi lo : Nat) (i : Nat) (h : i < 4) : ((ofAt hi lo i).set i (itd lo i % 65536)).set (i + 4) (itd hi i % 65536) = ofAt hi lo (i + 1) := by
  match i, h with
  | 0, _ => rfl
  | 1, _ => rfl
  | 2, _ => rfl
  | 3, _ => rfl
theorem ofAt_end (hi lo : Nat) : ofAt hi lo 4 = ofL hi lo := rfl
/-! Mul: part by part. -/
structure MulI (x y : List Nat) (i j : Nat) (s : List Nat) : Prop where
  len : s.length = 9
  v : ∀ xi, x[i]? = some xi → val s = val (x.take i) * val (y.take 4) + 65536 ^ i * (xi * val (y.take j))
  b : ∀ e, e ∈ s → e ≤ (4 * i + j) * 65536
theorem mb (i j : Nat) {e : Nat} (h : e ≤ (4 * i + j) * 65536) : e ≤ (4 * i + (j + 1)) * 65536 := Nat.le_trans h (Nat.mul_le_mul_right _ (Nat.le_succ _))
theorem mb2 (i j : Nat) {a r : Nat} (h : a ≤ (4 * i + j) * 65536) (hr : r < 65536) : a + r ≤ (4 * i + (j + 1)) * 65536 := by
  rw [← Nat.add_assoc, Nat.succ_mul]
  exact Nat.add_le_add h (Nat.le_of_lt hr)
theorem dvb {p : Nat} (h : p ≤ 65535 * 65535) : p / 65536 < 65536 := Nat.div_lt_of_lt_mul (Nat.lt_of_le_of_lt h (by decide))
theorem MulI.step {x y : List Nat} {i j : Nat} {s : List Nat} (h : MulI x y i j s) (hi : i < 4) (hj : j < 4) {xi yj a b : Nat} (hx : x[i]? = some xi) (hy : y[j]? = some yj) (hxl : xi < 65536) (hyl : yj < 65536) (ha : s[i + j]? = some a)
    (hb : (s.set (i + j) (a + xi * yj % 65536))[i + j + 1]? = some b) : MulI x y i (j + 1) ((s.set (i + j) (a + xi * yj % 65536)).set (i + j + 1) (b + xi * yj / 65536)) := by
  have hp : xi * yj ≤ 65535 * 65535 := Nat.mul_le_mul (Nat.le_of_lt_succ hxl) (Nat.le_of_lt_succ hyl)
  have hb0 : s[i + j + 1]? = some b := by rw [List.getElem?_set_ne (by omega)] at hb; exact hb
  have ba := h.b a (List.mem_of_getElem? ha)
  have bb := h.b b (List.mem_of_getElem? hb0)
  refine ⟨by rw [List.length_set, List.length_set]; exact h.len, fun xi' hx' => ?_, fun e he => ?_⟩
  · rw [hx] at hx'
    injection hx' with hx'
    subst hx'
    rw [val_add hb, val_add ha, h.v xi hx, val_take_succ hy]
    have e1 : 65536 ^ (i + j + 1) * (xi * yj / 65536) = 65536 ^ (i + j) * (65536 * (xi * yj / 65536)) := by rw [Nat.pow_succ, Nat.mul_assoc]
    have e2 : 65536 ^ (i + j) * (xi * yj % 65536) + 65536 ^ (i + j) * (65536 * (xi * yj / 65536)) = 65536 ^ (i + j) * (xi * yj) := by rw [← Nat.mul_add, Nat.mod_add_div]
    have e3 : 65536 ^ i * (xi * (val (y.take j) + 65536 ^ j * yj)) = 65536 ^ i * (xi * val (y.take j)) + 65536 ^ (i + j) * (xi * yj) := by
      rw [Nat.mul_add, Nat.mul_add, Nat.pow_add]
      congr 1
      rw [← Nat.mul_assoc xi, Nat.mul_comm xi (65536 ^ j), Nat.mul_assoc (65536 ^ j), ← Nat.mul_assoc (65536 ^ i)]
    rw [e3, e1]
    omega
  · rcases List.mem_or_eq_of_mem_set he with he | he
    · rcases List.mem_or_eq_of_mem_set he with he | he
      · exact mb i j (h.b e he)
      · rw [he]; exact mb2 i j ba (Nat.mod_lt _ (by decide))
    · rw [he]; exact mb2 i j bb (dvb hp)
theorem MulI.next {x y : List Nat} {i : Nat} {s : List Nat} (h : MulI x y i 4 s) (hx : i < x.length) : MulI x y (i + 1) 0 s := by
  obtain ⟨xi, hxi⟩ : ∃ xi, x[i]? = some xi := ⟨_, List.getElem?_eq_getElem hx⟩
  refine ⟨h.len, fun z hz => ?_, fun e he => by have := h.b e he; omega⟩
  rw [h.v xi hxi, val_take_succ hxi, List.take_zero, val, Nat.mul_zero, Nat.mul_zero, Nat.add_zero, Nat.add_mul, Nat.mul_assoc]
theorem MulI.start (x y : List Nat) : MulI x y 0 0 [0, 0, 0, 0, 0, 0, 0, 0, 0] := by
  refine ⟨rfl, fun xi hx => ?_, fun e he => ?_⟩
  · rw [List.take_zero, List.take_zero, val, Nat.mul_zero, Nat.zero_mul, Nat.mul_zero]; rfl
  · simp at he; omega
structure CarI (s : List Nat) (k : Nat) (out : List Nat) (over : Nat) : Prop where
  len : out.length = 8
  lt : ∀ x, x ∈ out → x < 65536
  z : ∀ i, k ≤ i → i < 8 → out[i]? = some 0
  v : val out + 65536 ^ k * over = val (s.take k)
  o : over ≤ 17
theorem CarI.start (s : List Nat) : CarI s 0 [0, 0, 0, 0, 0, 0, 0, 0] 0 := by
  refine ⟨rfl, fun x h => by simp at h; omega, fun i _ h => ?_, by rw [List.take_zero]; rfl, by decide⟩
  show (List.replicate 8 0)[i]? = some 0
  rw [List.getElem?_replicate, if_pos h]
theorem CarI.step {s out : List Nat} {k over e : Nat} (h : CarI s k out over) (hk : k < 8) (hs : s[k]? = some e) (he : e ≤ 16 * 65536) : CarI s (k + 1) (out.set k ((e + over) % 65536)) ((e + over) / 65536) := by
  have ho := h.o
  have hz := h.z k (Nat.le_refl _) hk
  refine ⟨by rw [List.length_set]; exact h.len, fun x hx => ?_, fun i h1 h2 => ?_, ?_, by omega⟩
  · rcases List.mem_or_eq_of_mem_set hx with hx | hx
    · exact h.lt x hx
    · rw [hx]; exact Nat.mod_lt _ (by decide)
  · rw [List.getElem?_set_ne (by omega)]; exact h.z i (by omega) h2
  · have e1 := val_set out k ((e + over) % 65536) 0 hz
    rw [Nat.mul_zero, Nat.add_zero] at e1
    rw [e1, val_take_succ hs, ← h.v]
    have e2 : 65536 ^ (k + 1) * ((e + over) / 65536) = 65536 ^ k * (65536 * ((e + over) / 65536)) := by rw [Nat.pow_succ, Nat.mul_assoc]
    have e3 : 65536 ^ k * ((e + over) % 65536) + 65536 ^ k * (65536 * ((e + over) / 65536)) = 65536 ^ k * (e + over) := by rw [← Nat.mul_add, Nat.mod_add_div]
    rw [Nat.mul_add] at e3
    rw [e2]
    omega
theorem mul_end {s out : List Nat} {over a b : Nat} (hl : s.length = 9) (hv : val s = a * b) (h : CarI s 8 out over) (ha : a < 18446744073709551616) (hb : b < 18446744073709551616) : val out = a * b := by
  obtain ⟨e, he⟩ : ∃ e, s[8]? = some e := ⟨_, List.getElem?_eq_getElem (by omega)⟩
  have h9 : s.take 9 = s := List.take_of_length_le (by omega)
  have e1 := val_take_succ he
  rw [h9, hv, ← h.v] at e1
  have hab : a * b < 340282366920938463463374607431768211456 := Nat.lt_of_lt_of_le (Nat.mul_lt_mul_of_lt_of_le ha (Nat.le_of_lt hb) (by omega)) (by decide)
  have e8 : (65536 : Nat) ^ 8 = 340282366920938463463374607431768211456 := by decide
  rw [e8] at e1
  omega
/-! Div: bit by bit. -/
theorem bit_of {A k r x : Nat} (h : A / 65536 ^ k % 65536 = x) (hr : r < 16) : x / 2 ^ r % 2 = A / 2 ^ (16 * k + r) % 2 := by
  subst h
  have e : (65536 : Nat) = 2 ^ r * 2 ^ (16 - r) := by rw [← Nat.pow_add, show r + (16 - r) = 16 by omega]
  have e2 : (65536 : Nat) ^ k = 2 ^ (16 * k) := by rw [Nat.pow_mul]
  have e3 : A / 65536 ^ k % 65536 / 2 ^ r = A / 65536 ^ k / 2 ^ r % 2 ^ (16 - r) := by
    have := Nat.mod_mul_right_div_self (A / 65536 ^ k) (2 ^ r) (2 ^ (16 - r))
    rw [← e] at this
    exact this
  rw [e3, Nat.mod_mod_of_dvd _ (Nat.dvd_trans (by decide : (2 : Nat) ∣ 2 ^ 1) (Nat.pow_dvd_pow 2 (by omega))), e2, Nat.div_div_eq_div_mul, ← Nat.pow_add]
structure DivI (A n t : Nat) (out : List Nat) (left : Nat) : Prop where
  len : out.length = 8
  lt : ∀ x, x ∈ out → x < 65536
  v : val out = A / 2 ^ t / n * 2 ^ t
  l : left = A / 2 ^ t % n
theorem half {A t : Nat} : A / 2 ^ t = 2 * (A / 2 ^ (t + 1)) + A / 2 ^ t % 2 := by
  have e : A / 2 ^ (t + 1) = A / 2 ^ t / 2 := by rw [Nat.pow_succ, Nat.div_div_eq_div_mul]
  rw [e]; omega
theorem div_two {q l bit n : Nat} (hl : l < n) (hb : bit < 2) : (n ≤ 2 * l + bit → (2 * (q * n + l) + bit) / n = 2 * q + 1 ∧ (2 * (q * n + l) + bit) % n = 2 * l + bit - n) ∧ (¬ n ≤ 2 * l + bit → (2 * (q * n + l) + bit) / n = 2 * q ∧ (2 * (q * n + l) + bit) % n = 2 * l + bit) := by
  have e : 2 * (q * n + l) + bit = (2 * l + bit) + n * (2 * q) := by
    rw [Nat.mul_add, ← Nat.mul_assoc, Nat.mul_comm (2 * q) n]; omega
  have hn : 0 < n := by omega
  constructor
  · intro h
    have e2 : 2 * (q * n + l) + bit = (2 * l + bit - n) + n * (2 * q + 1) := by rw [e, Nat.mul_add, Nat.mul_one]; omega
    rw [e2, Nat.add_mul_div_left _ _ hn, Nat.add_mul_mod_self_left, Nat.div_eq_of_lt (by omega), Nat.mod_eq_of_lt (by omega)]
    exact ⟨by omega, rfl⟩
  · intro h
    rw [e, Nat.add_mul_div_left _ _ hn, Nat.add_mul_mod_self_left, Nat.div_eq_of_lt (by omega), Nat.mod_eq_of_lt (by omega)]
    exact ⟨by omega, rfl⟩
/-- A bit that is not there yet: the part where it goes. -/
theorem free_bit {out : List Nat} {q t x : Nat} (hlt : ∀ y, y ∈ out → y < 65536) (hv : val out = q * 2 ^ (t + 1)) (hx : out[t / 16]? = some x) : ∃ a, x = a * 2 ^ (t % 16 + 1) ∧ x + 2 ^ (t % 16) < 65536 := by
  have h1 := val_at out (t / 16) x hlt hx
  have hxl := hlt x (List.mem_of_getElem? hx)
  have hr : t % 16 < 16 := Nat.mod_lt _ (by decide)
  have ht : t = 16 * (t / 16) + t % 16 := by omega
  have e2 : (65536 : Nat) ^ (t / 16) = 2 ^ (16 * (t / 16)) := by rw [Nat.pow_mul]
  have e3 : val out / 65536 ^ (t / 16) = q * 2 ^ (t % 16 + 1) := by
    rw [hv, e2, show t + 1 = (t % 16 + 1) + 16 * (t / 16) by omega, Nat.pow_add, ← Nat.mul_assoc, Nat.mul_div_cancel _ (Nat.pow_pos (by decide))]
  rw [e3] at h1
  have e : (65536 : Nat) = 2 ^ (15 - t % 16) * 2 ^ (t % 16 + 1) := by rw [← Nat.pow_add, show 15 - t % 16 + (t % 16 + 1) = 16 by omega]
  have hpos : 0 < 2 ^ (t % 16 + 1) := Nat.pow_pos (by decide)
  have hm : q * 2 ^ (t % 16 + 1) % 65536 = q % 2 ^ (15 - t % 16) * 2 ^ (t % 16 + 1) := by
    have := Nat.mul_mod_mul_right (2 ^ (t % 16 + 1)) q (2 ^ (15 - t % 16))
    rw [← e] at this
    exact this
  rw [hm] at h1
  refine ⟨q % 2 ^ (15 - t % 16), h1.symm, ?_⟩
  have hlt2 : q % 2 ^ (15 - t % 16) + 1 ≤ 2 ^ (15 - t % 16) := Nat.mod_lt _ (Nat.pow_pos (by decide))
  have := Nat.mul_le_mul_right (2 ^ (t % 16 + 1)) hlt2
  rw [← e, Nat.add_mul, Nat.one_mul, h1] at this
  have h2 : 2 ^ (t % 16) < 2 ^ (t % 16 + 1) := Nat.pow_lt_pow_right (by decide) (by omega)
  omega
theorem DivI.yes {A n t : Nat} {out : List Nat} {left x : Nat} (h : DivI A n (t + 1) out left) (hn : 0 < n) (hx : out[t / 16]? = some x) (hq : n ≤ 2 * left + A / 2 ^ t % 2) : DivI A n t (out.set (t / 16) (x + 2 ^ (t % 16))) (2 * left + A / 2 ^ t % 2 - n) := by
  obtain ⟨a, ha, hb⟩ := free_bit h.lt h.v hx
  have hl : left < n := by rw [h.l]; exact Nat.mod_lt _ hn
  have hd := (div_two (q := A / 2 ^ (t + 1) / n) (bit := A / 2 ^ t % 2) hl (Nat.mod_lt _ (by decide))).1 hq
  have eA : 2 * (A / 2 ^ (t + 1) / n * n + left) + A / 2 ^ t % 2 = A / 2 ^ t := by
    rw [h.l, Nat.mul_comm (A / 2 ^ (t + 1) / n) n, Nat.div_add_mod]
    exact half.symm
  rw [eA] at hd
  refine ⟨by rw [List.length_set]; exact h.len, fun y hy => ?_, ?_, hd.2.symm⟩
  · rcases List.mem_or_eq_of_mem_set hy with hy | hy
    · exact h.lt y hy
    · rw [hy]; exact hb
  · rw [val_add hx, h.v, hd.1]
    have e2 : (65536 : Nat) ^ (t / 16) * 2 ^ (t % 16) = 2 ^ t := by
      rw [show (65536 : Nat) ^ (t / 16) = 2 ^ (16 * (t / 16)) by rw [Nat.pow_mul], ← Nat.pow_add, show 16 * (t / 16) + t % 16 = t by omega]
    rw [e2, Nat.pow_succ, Nat.add_mul, Nat.one_mul]
    congr 1
    rw [Nat.mul_comm (2 ^ t) 2, ← Nat.mul_assoc, Nat.mul_comm _ 2]
theorem DivI.no {A n t : Nat} {out : List Nat} {left : Nat} (h : DivI A n (t + 1) out left) (hn : 0 < n) (hq : ¬ n ≤ 2 * left + A / 2 ^ t % 2) : DivI A n t out (2 * left + A / 2 ^ t % 2) := by
  have hl : left < n := by rw [h.l]; exact Nat.mod_lt _ hn
  have hd := (div_two (q := A / 2 ^ (t + 1) / n) (bit := A / 2 ^ t % 2) hl (Nat.mod_lt _ (by decide))).2 hq
  have eA : 2 * (A / 2 ^ (t + 1) / n * n + left) + A / 2 ^ t % 2 = A / 2 ^ t := by
    rw [h.l, Nat.mul_comm (A / 2 ^ (t + 1) / n) n, Nat.div_add_mod]
    exact half.symm
  rw [eA] at hd
  refine ⟨h.len, h.lt, ?_, hd.2.symm⟩
  rw [h.v, hd.1, Nat.pow_succ, Nat.mul_comm (2 ^ t) 2, ← Nat.mul_assoc, Nat.mul_comm _ 2]
theorem DivI.start {A n : Nat} (hA : A < 2 ^ 128) : DivI A n 128 [0, 0, 0, 0, 0, 0, 0, 0] 0 := by
  have e : A / 2 ^ 128 = 0 := Nat.div_eq_of_lt hA
  exact ⟨rfl, fun x h => by simp at h; omega, by rw [e, Nat.zero_div, Nat.zero_mul]; rfl, by rw [e, Nat.zero_mod]⟩
theorem DivI.fin {A n : Nat} {out : List Nat} {left : Nat} (h : DivI A n 0 out left) : val out = A / n ∧ left = A % n := by
  have hv := h.v
  have hl := h.l
  rw [Nat.pow_zero, Nat.div_one] at hv hl
  rw [Nat.mul_one] at hv
  exact ⟨hv, hl⟩
/-! The months' nearest. -/
theorem round_month {x : Nat} : (if (6000000 : Nat) ≤ x % 12000000 then x / 12000000 + 1 else x / 12000000) = (if x * 30 % 360000000 < 360000000 - x * 30 % 360000000 then x * 30 / 360000000 else x * 30 / 360000000 + 1) := by
  have e1 : x * 30 / 360000000 = x / 12000000 := by omega
  have e2 : x * 30 % 360000000 = 30 * (x % 12000000) := by omega
  rw [e1, e2]
  split <;> split <;> omega
end Go.Pl
