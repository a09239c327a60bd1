/- Plain arithmetic of digit lists: values, canonical digits, lengths; no program in sight. -/
namespace Go.Proofs.YtaeamlldocbeeaaDoor.Num

/-- value of a list of digits to the base B, the lowest first -/
def val (B : Nat) : List Nat → Nat
  | [] => 0
  | x :: xs => x + B * val B xs

/-- all digits are below B -/
def Dg (B : Nat) (xs : List Nat) : Prop := ∀ x ∈ xs, x < B

/-- length without the noughts at the end -/
def tlen : List Nat → Nat
  | [] => 0
  | x :: xs => if tlen xs = 0 then (if x = 0 then 0 else 1) else tlen xs + 1

/-- the canonical digits of a number -/
def digF (B : Nat) : Nat → Nat → List Nat
  | 0, _ => []
  | f + 1, n => if n = 0 then [] else (n % B) :: digF B f (n / B)

def dig (B n : Nat) : List Nat := digF B n n

theorem val_append (B : Nat) (xs ys : List Nat) : val B (xs ++ ys) = val B xs + B ^ xs.length * val B ys := by
  induction xs with
  | nil => simp [val]
  | cons x xs ih => 
    rw [List.cons_append, val, val, ih, List.length_cons, Nat.pow_succ, Nat.mul_add, Nat.add_assoc, ← Nat.mul_assoc, Nat.mul_comm B (B ^ xs.length)]

theorem val_single (B x : Nat) : val B [x] = x := by simp [val]

theorem val_snoc (B : Nat) (xs : List Nat) (x : Nat) : val B (xs ++ [x]) = val B xs + B ^ xs.length * x := by
  rw [val_append, val_single]

theorem val_replicate (B n : Nat) : val B (List.replicate n 0) = 0 := by
  induction n with
  | zero => rfl
  | succ n ih => simp [List.replicate_succ, val, ih]

theorem take_snoc {α : Type} (xs : List α) (i : Nat) (h : i < xs.length) : xs.take (i + 1) = xs.take i ++ [xs[i]] := by
  rw [List.take_succ_eq_append_getElem h]

theorem val_take_succ (B : Nat) (xs : List Nat) (i : Nat) (h : i < xs.length) :
    val B (xs.take (i + 1)) = val B (xs.take i) + B ^ i * xs[i] := by
  rw [take_snoc xs i h, val_snoc, List.length_take, Nat.min_eq_left (by omega)]

theorem val_drop (B : Nat) (xs : List Nat) (i : Nat) (h : i < xs.length) : val B (xs.drop i) = xs[i] + B * val B (xs.drop (i + 1)) := by
  rw [List.drop_eq_getElem_cons h]; rfl

theorem val_take_drop (B : Nat) (xs : List Nat) (i : Nat) (h : i ≤ xs.length) : val B xs = val B (xs.take i) + B ^ i * val B (xs.drop i) := by
  conv => lhs; rw [← List.take_append_drop i xs]
  rw [val_append, List.length_take, Nat.min_eq_left h]

theorem Dg.nil {B : Nat} : Dg B [] := by intro x h; simp at h

theorem Dg.cons {B x : Nat} {xs : List Nat} (h : x < B) (hs : Dg B xs) : Dg B (x :: xs) := by
  intro y hy
  rcases List.mem_cons.1 hy with rfl | hy
  · exact h
  · exact hs y hy

theorem Dg.append {B : Nat} {xs ys : List Nat} (h : Dg B xs) (k : Dg B ys) : Dg B (xs ++ ys) := by
  intro y hy
  rcases List.mem_append.1 hy with hy | hy
  · exact h y hy
  · exact k y hy

theorem Dg.snoc {B : Nat} {xs : List Nat} {x : Nat} (h : Dg B xs) (k : x < B) : Dg B (xs ++ [x]) :=
  h.append (Dg.cons k Dg.nil)

theorem Dg.take {B : Nat} {xs : List Nat} (h : Dg B xs) (n : Nat) : Dg B (xs.take n) :=
  fun x hx => h x (List.mem_of_mem_take hx)

theorem Dg.drop {B : Nat} {xs : List Nat} (h : Dg B xs) (n : Nat) : Dg B (xs.drop n) :=
  fun x hx => h x (List.mem_of_mem_drop hx)

theorem Dg.set {B : Nat} {xs : List Nat} (h : Dg B xs) (n x : Nat) (hx : x < B) : Dg B (xs.set n x) := by
  intro y hy
  rcases List.mem_or_eq_of_mem_set hy with hy | rfl
  · exact h y hy
  · exact hx

theorem Dg.at {B : Nat} {xs : List Nat} (h : Dg B xs) (i : Nat) (hi : i < xs.length) : xs[i] < B := h _ (List.getElem_mem hi)

theorem Dg.replicate {B : Nat} (hB : 0 < B) (n : Nat) : Dg B (List.replicate n 0) := by
  intro x hx
  rw [List.eq_of_mem_replicate hx]; exact hB

theorem val_lt {B : Nat} {xs : List Nat} (h : Dg B xs) : val B xs < B ^ xs.length := by
  induction xs with
  | nil => simp [val]
  | cons x xs ih =>
    have hx : x < B := h x (by simp)
    have := ih (fun y hy => h y (by simp [hy]))
    simp only [val, List.length_cons, Nat.pow_succ]
    have h1 : B * val B xs + B ≤ B ^ xs.length * B := by
      rw [Nat.mul_comm (B ^ xs.length)]
      have : B * (val B xs + 1) ≤ B * B ^ xs.length := Nat.mul_le_mul_left _ this
      rw [Nat.mul_add, Nat.mul_one] at this; exact this
    omega

/-! ### noughts at the end -/

theorem tlen_le (xs : List Nat) : tlen xs ≤ xs.length := by
  induction xs with
  | nil => simp [tlen]
  | cons x xs ih => simp only [tlen, List.length_cons]; split <;> (try split) <;> omega

theorem tlen_take (xs : List Nat) (k : Nat) (hk : k < xs.length) (h : xs[k] = 0) : tlen (xs.take (k+1)) = tlen (xs.take k) := by
  induction xs generalizing k with
  | nil => simp at hk
  | cons x xs ih =>
    cases k with
    | zero => simp at h; simp [tlen, h]
    | succ k =>
      simp at h hk
      have := ih k hk h
      simp [tlen, this]

theorem tlen_ne (xs : List Nat) (k : Nat) (hk : k < xs.length) (h : xs[k] ≠ 0) : tlen (xs.take (k+1)) = k + 1 := by
  induction xs generalizing k with
  | nil => simp at hk
  | cons x xs ih =>
    cases k with
    | zero => simp at h; simp [tlen, h]
    | succ k =>
      simp at h hk
      have := ih k hk h
      simp [tlen, this]

theorem val_take_tlen (B : Nat) (xs : List Nat) : val B (xs.take (tlen xs)) = val B xs := by
  induction xs with
  | nil => rfl
  | cons x xs ih =>
    simp only [tlen]
    split
    · rename_i h
      rw [h] at ih; simp [val] at ih
      split
      · rename_i hx; simp [val, hx, ← ih]
      · simp [val, ← ih]
    · simp only [List.take_succ_cons, val, ih]

/-! ### canonical digits -/

theorem digF_stable (B : Nat) (hB : 1 < B) : ∀ f n, n ≤ f → digF B f n = digF B n n := by
  intro f
  induction f using Nat.strongRecOn with
  | _ f ih =>
    intro n hn
    cases f with
    | zero => obtain rfl : n = 0 := by omega
              rfl
    | succ f =>
      cases n with
      | zero => simp [digF]
      | succ n =>
        have hlt : (n + 1) / B < n + 1 := Nat.div_lt_self (by omega) hB
        simp only [digF]
        rw [if_neg (by omega), if_neg (by omega)]
        rw [ih f (by omega) _ (by omega), ih n (by omega) ((n + 1) / B) (by omega)]

theorem dig_zero (B : Nat) : dig B 0 = [] := rfl

theorem dig_pos (B n : Nat) (hB : 1 < B) (hn : 0 < n) : dig B n = (n % B) :: dig B (n / B) := by
  cases n with
  | zero => omega
  | succ n =>
    have hlt : (n + 1) / B < n + 1 := Nat.div_lt_self (by omega) hB
    unfold dig
    rw [digF, if_neg (by omega), digF_stable B hB n _ (by omega)]

theorem val_dig (B : Nat) (hB : 1 < B) (n : Nat) : val B (dig B n) = n := by
  induction n using Nat.strongRecOn with
  | _ n ih =>
    by_cases h : n = 0
    · subst h; rfl
    · rw [dig_pos B n hB (by omega), val, ih _ (Nat.div_lt_self (by omega) hB)]
      exact Nat.mod_add_div n B

theorem Dg.dig (B : Nat) (hB : 1 < B) (n : Nat) : Dg B (dig B n) := by
  induction n using Nat.strongRecOn with
  | _ n ih =>
    by_cases h : n = 0
    · subst h; exact Dg.nil
    · rw [dig_pos B n hB (by omega)]
      exact Dg.cons (Nat.mod_lt _ (by omega)) (ih _ (Nat.div_lt_self (by omega) hB))

theorem dig_val (B : Nat) (hB : 1 < B) {xs : List Nat} (h : Dg B xs) : dig B (val B xs) = xs.take (tlen xs) := by
  induction xs with
  | nil => rfl
  | cons x xs ih =>
    have hx : x < B := h x (by simp)
    have ih := ih (fun y hy => h y (by simp [hy]))
    have hv := val_take_tlen B xs
    by_cases h0 : x + B * val B xs = 0
    · have e1 : x = 0 := by omega
      have e2 : val B xs = 0 := by
        have : B * val B xs = 0 := by omega
        rcases Nat.mul_eq_zero.1 this with h | h
        · omega
        · exact h
      rw [e2] at ih
      have : tlen xs = 0 := by
        have hl := congrArg List.length ih
        rw [dig_zero, List.length_take, Nat.min_eq_left (tlen_le xs)] at hl
        exact hl.symm
      rw [val, h0, dig_zero]
      simp [tlen, this, e1]
    · have e : (x + B * val B xs) % B = x := by rw [Nat.add_mul_mod_self_left]; exact Nat.mod_eq_of_lt hx
      have e' : (x + B * val B xs) / B = val B xs := by rw [Nat.add_mul_div_left _ _ (by omega), Nat.div_eq_of_lt hx]; omega
      rw [val, dig_pos B _ hB (by omega), e, e', ih]
      simp only [tlen]
      split
      · rename_i h1
        rw [h1] at hv; simp [val] at hv
        rw [if_neg (by intro hx0; apply h0; rw [hx0, ← hv]; simp)]
        simp [h1]
      · rfl

theorem length_dig_val (B : Nat) (hB : 1 < B) {xs : List Nat} (h : Dg B xs) : (dig B (val B xs)).length = tlen xs := by
  rw [dig_val B hB h, List.length_take, Nat.min_eq_left (tlen_le xs)]

theorem dig_length_le (B : Nat) (hB : 1 < B) (k n : Nat) : (dig B n).length ≤ k ↔ n < B ^ k := by
  induction k generalizing n with
  | zero =>
    by_cases h : n = 0
    · subst h; simp [dig_zero]
    · rw [dig_pos B n hB (by omega)]; simp; omega
  | succ k ih =>
    by_cases h : n = 0
    · subst h; simp [dig_zero]; exact Nat.pow_pos (by omega)
    · rw [dig_pos B n hB (by omega), List.length_cons, Nat.add_le_add_iff_right, ih, Nat.pow_succ, Nat.div_lt_iff_lt_mul (by omega)]

theorem lt_dig_length (B : Nat) (hB : 1 < B) (k n : Nat) : k < (dig B n).length ↔ B ^ k ≤ n := by
  have := dig_length_le B hB k n
  constructor
  · intro h; exact Nat.le_of_not_lt (fun h' => by have := this.2 h'; omega)
  · intro h; exact Nat.lt_of_not_le (fun h' => by have := this.1 h'; omega)

theorem dig_eq_nil (B : Nat) (hB : 1 < B) (n : Nat) : dig B n = [] ↔ n = 0 := by
  constructor
  · intro h; have := (dig_length_le B hB 0 n).1 (by simp [h]); simpa using this
  · rintro rfl; rfl

theorem dig_inj (B : Nat) (hB : 1 < B) {m n : Nat} (h : dig B m = dig B n) : m = n := by
  rw [← val_dig B hB m, ← val_dig B hB n, h]

theorem dig_last (B : Nat) (hB : 1 < B) (n : Nat) (h : 0 < (dig B n).length) : (dig B n)[(dig B n).length - 1] ≠ 0 := by
  induction n using Nat.strongRecOn with
  | _ n ih =>
    by_cases h0 : n = 0
    · subst h0; simp [dig_zero] at h
    · have e := dig_pos B n hB (by omega)
      by_cases h1 : n / B = 0
      · have hlt : n < B := by
          rcases Nat.lt_or_ge n B with h | h
          · exact h
          · have := Nat.div_pos h (by omega : 0 < B); omega
        simp only [e, h1, dig_zero, List.length_cons, List.length_nil]
        simp
        rw [Nat.mod_eq_of_lt hlt]; exact h0
      · have hl : 0 < (dig B (n / B)).length := by
          exact (lt_dig_length B hB 0 (n / B)).2 (by rw [Nat.pow_zero]; exact Nat.pos_of_ne_zero h1)
        have := ih _ (Nat.div_lt_self (by omega) hB) hl
        simp only [e, List.length_cons, Nat.add_sub_cancel]
        rw [List.getElem_cons]
        rw [dif_neg (by omega)]
        exact this

theorem dig_lt_base (B : Nat) (hB : 1 < B) {n : Nat} (h : n < B) (h0 : n ≠ 0) : dig B n = [n] := by
  rw [dig_pos B n hB (by omega), Nat.mod_eq_of_lt h, Nat.div_eq_of_lt h, dig_zero]

theorem val_lt_of_length {B : Nat} {xs ys : List Nat} (hx : Dg B xs) {n : Nat} (hB : 1 < B) (hy : ys = dig B n) (h : xs.length < ys.length) : val B xs < n := by
  subst hy
  have h1 := val_lt hx
  have h2 := (lt_dig_length B hB (xs.length) n).1 h
  omega

/-- digits of a number whose digits are written by a list of any length -/
theorem dig_of_val (B : Nat) (hB : 1 < B) {xs : List Nat} (h : Dg B xs) (n : Nat) (hv : val B xs = n) : xs.take (tlen xs) = dig B n := by
  rw [← hv, dig_val B hB h]

theorem dig_eq_self (B : Nat) (hB : 1 < B) {xs : List Nat} (h : Dg B xs) (hl : xs = [] ∨ ∃ h : 0 < xs.length, xs[xs.length - 1] ≠ 0) : dig B (val B xs) = xs := by
  rw [dig_val B hB h]
  have : tlen xs = xs.length := by
    rcases hl with rfl | ⟨h0, h1⟩
    · rfl
    · have := tlen_ne xs (xs.length - 1) (by omega) h1
      rw [show xs.length - 1 + 1 = xs.length by omega, List.take_length] at this
      exact this
  rw [this, List.take_length]

theorem tlen_dig (B : Nat) (hB : 1 < B) (n : Nat) : tlen (dig B n) = (dig B n).length := by
  rw [← length_dig_val B hB (Dg.dig B hB n), val_dig B hB]

/-! ### rows that are filled from the head -/

theorem set_grow (zs : List Nat) (i N s d : Nat) (hz : zs.length = i) (h : i < N) :
    (zs ++ List.replicate (N - i) d).set i s = (zs ++ [s]) ++ List.replicate (N - (i + 1)) d := by
  rw [List.set_append_right _ _ (by omega), hz, Nat.sub_self, show N - i = (N - (i + 1)) + 1 by omega, List.replicate_succ, List.set_cons_zero]
  simp

theorem length_grow (zs : List Nat) (i N d : Nat) (hz : zs.length = i) (h : i ≤ N) : (zs ++ List.replicate (N - i) d).length = N := by
  rw [List.length_append, List.length_replicate]; omega

theorem val_take_getD (B : Nat) (xs : List Nat) (i : Nat) : val B (xs.take (i + 1)) = val B (xs.take i) + B ^ i * xs.getD i 0 := by
  by_cases h : i < xs.length
  · rw [val_take_succ B xs i h]; simp [List.getD, h]
  · rw [List.take_of_length_le (by omega), List.take_of_length_le (by omega)]; simp [List.getD, h]

theorem Dg.getD {B : Nat} {xs : List Nat} (h : Dg B xs) (hB : 0 < B) (i : Nat) : xs.getD i 0 < B := by
  by_cases hi : i < xs.length
  · simp [List.getD, hi]; exact h.at i hi
  · simp [List.getD, hi]; exact hB

/-- one place of a sum -/
theorem add_step (B : Nat) (P s k x y c V X Y : Nat) (hv : V + P * c = X + Y) (hs : s = (x + y + c) % B) (hk : k = (x + y + c) / B) :
    V + P * s + P * B * k = (X + P * x) + (Y + P * y) := by
  have e : s + B * k = x + y + c := by rw [hs, hk]; exact Nat.mod_add_div _ _
  have e2 : P * (s + B * k) = P * (x + y + c) := by rw [e]
  rw [Nat.mul_add, Nat.mul_add, Nat.mul_add, ← Nat.mul_assoc] at e2
  omega

/-- one place of a difference -/
theorem sub_step (B : Nat) (P s k x y b V X Y : Nat) (hv : V + Y = X + P * b) (hx : x < B) (hy : y < B) (hb : b ≤ 1)
    (hs : s = (x + B - y - b) % B) (hk : k = if x < y + b then 1 else 0) :
    V + P * s + (Y + P * y) = (X + P * x) + P * B * k := by
  have e : s + y + b = x + B * k := by
    subst hs hk
    split
    · rw [Nat.mod_eq_of_lt (by omega)]; omega
    · rw [show x + B - y - b = B + (x - y - b) by omega, Nat.add_mod_left, Nat.mod_eq_of_lt (by omega)]; omega
  have e2 : P * (s + y + b) = P * (x + B * k) := by rw [e]
  rw [Nat.mul_add, Nat.mul_add, Nat.mul_add, ← Nat.mul_assoc] at e2
  omega

theorem dig_length_mono (B : Nat) (hB : 1 < B) {m n : Nat} (h : m ≤ n) : (dig B m).length ≤ (dig B n).length := by
  rw [dig_length_le B hB]
  have := (dig_length_le B hB (dig B n).length n).1 (Nat.le_refl _)
  omega

theorem val_set (B : Nat) (xs : List Nat) (p v : Nat) (h : p < xs.length) : val B (xs.set p v) + B ^ p * xs[p] = val B xs + B ^ p * v := by
  induction xs generalizing p with
  | nil => simp at h
  | cons x xs ih =>
    cases p with
    | zero => simp [val]; omega
    | succ p =>
      have h' : p < xs.length := by simpa using h
      have := ih p h'
      simp only [List.set_cons_succ, val, List.getElem_cons_succ, Nat.pow_succ]
      have e : B * (val B (xs.set p v) + B ^ p * xs[p]) = B * (val B xs + B ^ p * v) := by rw [this]
      rw [Nat.mul_add, Nat.mul_add, ← Nat.mul_assoc, ← Nat.mul_assoc, Nat.mul_comm B (B ^ p)] at e
      omega

theorem pow_W (q : Nat) : 18446744073709551616 ^ q = 2 ^ (64 * q) := by
  rw [show (18446744073709551616 : Nat) = 2 ^ 64 from rfl, ← Nat.pow_mul]

theorem shl_mod (x k : Nat) (hk : k ≤ 64) : x * 2 ^ k % 18446744073709551616 = 2 ^ k * (x % 2 ^ (64 - k)) := by
  have e : (18446744073709551616 : Nat) = 2 ^ (64 - k) * 2 ^ k := by
    rw [← Nat.pow_add, show 64 - k + k = 64 by omega]
  rw [e, Nat.mul_mod_mul_right, Nat.mul_comm]

theorem shl_div (x k : Nat) (hk : k ≤ 64) : x * 2 ^ k / 18446744073709551616 = x / 2 ^ (64 - k) := by
  have e : (18446744073709551616 : Nat) = 2 ^ (64 - k) * 2 ^ k := by
    rw [← Nat.pow_add, show 64 - k + k = 64 by omega]
  rw [e, Nat.mul_div_mul_right _ _ (Nat.two_pow_pos k)]

theorem or_low (o k y : Nat) (h : o < 2 ^ k) : o ||| (2 ^ k * y) = o + 2 ^ k * y := by
  rw [Nat.or_comm, ← Nat.two_pow_add_eq_or_of_lt h, Nat.add_comm]

/-- a number moved up by fewer than 64 bits, and what fell out of it the time before -/
theorem shl_parts (x o k : Nat) (hk : k ≤ 64) (ho : o < 2 ^ k) (hx : x < 18446744073709551616) :
    (o ||| (x * 2 ^ k % 18446744073709551616)) = o + x * 2 ^ k % 18446744073709551616 ∧ o + x * 2 ^ k % 18446744073709551616 < 18446744073709551616 ∧
    x * 2 ^ k / 18446744073709551616 < 2 ^ k := by
  refine ⟨?_, ?_, ?_⟩
  · rw [shl_mod x k hk, or_low _ _ _ ho]
  · rw [shl_mod x k hk]
    have h1 : x % 2 ^ (64 - k) < 2 ^ (64 - k) := Nat.mod_lt _ (Nat.two_pow_pos _)
    have h2 : 2 ^ k * (x % 2 ^ (64 - k) + 1) ≤ 2 ^ k * 2 ^ (64 - k) := Nat.mul_le_mul_left _ h1
    rw [← Nat.pow_add, show k + (64 - k) = 64 by omega, Nat.mul_add] at h2
    omega
  · rw [Nat.div_lt_iff_lt_mul (by omega), Nat.mul_comm]
    exact Nat.mul_lt_mul_of_pos_left hx (Nat.two_pow_pos k)

/-- one place of a shift up -/
theorem shl_step (zs : List Nat) (V x o r v2 i q k m S : Nat) (hm : m = 64 * q + k) (hp : i + q + 1 < zs.length) (ho : zs[i + q] = o) (h0 : zs[i + q + 1] = 0)
    (hv : val 18446744073709551616 zs = V * 2 ^ m) (hr : r + 18446744073709551616 * v2 = x * 2 ^ k) (hS : S = V + 18446744073709551616 ^ i * x) :
    val 18446744073709551616 ((zs.set (i + q) (o + r)).set (i + q + 1) v2) = S * 2 ^ m := by
  have e1 := val_set 18446744073709551616 zs (i + q) (o + r) (by omega)
  have e2 := val_set 18446744073709551616 (zs.set (i + q) (o + r)) (i + q + 1) v2 (by rw [List.length_set]; omega)
  rw [List.getElem_set_ne (by omega), h0, Nat.mul_zero, Nat.add_zero] at e2
  rw [ho, Nat.mul_add] at e1
  have e3 : val 18446744073709551616 (zs.set (i + q) (o + r)) = val 18446744073709551616 zs + 18446744073709551616 ^ (i + q) * r := by omega
  rw [e2, e3, hv, hS, Nat.pow_succ, Nat.mul_assoc _ _ v2, Nat.add_assoc, ← Nat.mul_add, hr, Nat.add_mul]
  have e4 : 18446744073709551616 ^ (i + q) * (x * 2 ^ k) = 18446744073709551616 ^ i * x * 2 ^ m := by
    rw [Nat.pow_add, pow_W q, hm, Nat.pow_add 2]
    simp only [Nat.mul_assoc, Nat.mul_comm, Nat.mul_left_comm]
  rw [e4]

theorem mul_inner (P B V x vt c y l2 o k vs : Nat) (hv : V + P * c = vs + vt) (he : l2 + B * k = x * y + o + c) (V' : Nat) (hV : V' + P * o = V + P * l2) :
    V' + P * B * k = vs + (vt + P * (x * y)) := by
  have e2 : P * (l2 + B * k) = P * (x * y + o + c) := by rw [he]
  rw [Nat.mul_add, Nat.mul_add, Nat.mul_add, ← Nat.mul_assoc P B k] at e2
  omega

/-- one place of a product -/
theorem mul_place (B x y o c hi lo l1 c1 l2 c2 : Nat) (hx : x < B) (hy : y < B) (ho : o < B) (hc : c < B) (h1 : hi = x * y / B) (h2 : lo = x * y % B)
    (h3 : l1 = (lo + o + 0) % B) (h4 : c1 = (lo + o + 0) / B) (h5 : l2 = (l1 + c + 0) % B) (h6 : c2 = (l1 + c + 0) / B) :
    l2 + B * (hi + c1 + c2) = x * y + o + c ∧ hi + c1 + c2 < B := by
  have e1 : lo + B * hi = x * y := by rw [h1, h2]; exact Nat.mod_add_div _ _
  have e2 : l1 + B * c1 = lo + o := by rw [h3, h4]; exact Nat.mod_add_div _ _
  have e3 : l2 + B * c2 = l1 + c := by rw [h5, h6]; exact Nat.mod_add_div _ _
  have e4 : l2 + B * (hi + c1 + c2) = x * y + o + c := by
    rw [Nat.mul_add, Nat.mul_add]; omega
  refine ⟨e4, ?_⟩
  have e5 : x * y ≤ (B - 1) * (B - 1) := Nat.mul_le_mul (by omega) (by omega)
  have e6 : (B - 1) * (B - 1) + (B - 1) + (B - 1) < B * B := by
    obtain ⟨m, rfl⟩ : ∃ m, B = m + 1 := ⟨B - 1, by omega⟩
    rw [Nat.add_sub_cancel, Nat.mul_add, Nat.add_mul]; omega
  have e7 : B * (hi + c1 + c2) < B * B := by omega
  exact Nat.lt_of_mul_lt_mul_left e7

/-! ### regrouping digits: two digits to the base b are one to the base b * b -/

def join (b : Nat) : List Nat → List Nat
  | [] => []
  | [x] => [x]
  | x :: y :: r => (x + b * y) :: join b r

theorem val_join (b : Nat) : ∀ xs, val (b * b) (join b xs) = val b xs
  | [] => rfl
  | [x] => by simp [join, val]
  | x :: y :: r => by
    simp only [join, val, val_join b r]
    rw [Nat.mul_add, Nat.mul_assoc, Nat.add_assoc]

/-! ### order -/

theorem val_cmp_aux {B : Nat} {xs ys : List Nat} (hx : Dg B xs) (_hy : Dg B ys) (i : Nat) (h1 : i < xs.length) (h2 : i < ys.length)
    (hl : xs.length = ys.length) (hd : xs.drop (i + 1) = ys.drop (i + 1)) (h : xs[i] < ys[i]) : val B xs < val B ys := by
  rw [val_take_drop B xs i (by omega), val_take_drop B ys i (by omega), val_drop B xs i h1, val_drop B ys i h2, hd]
  have h3 := val_lt (hx.take i)
  rw [List.length_take, Nat.min_eq_left (by omega)] at h3
  have : B ^ i * (xs[i] + B * val B (ys.drop (i + 1))) + B ^ i ≤ B ^ i * (ys[i] + B * val B (ys.drop (i + 1))) := by
    have : B ^ i * (xs[i] + B * val B (ys.drop (i + 1)) + 1) ≤ B ^ i * (ys[i] + B * val B (ys.drop (i + 1))) := Nat.mul_le_mul_left _ (by omega)
    rw [Nat.mul_add _ _ 1, Nat.mul_one] at this; exact this
  omega

end Go.Proofs.YtaeamlldocbeeaaDoor.Num
