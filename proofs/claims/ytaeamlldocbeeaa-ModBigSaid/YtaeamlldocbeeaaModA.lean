/- ModA: Mod1, Mod2, Mod3. -/
import Derived.Test.YtaeamlldocbeeaaMont6

/- modarith: may, rest, Mod, Mul. -/

namespace Go.Proofs.Ytaeamlldocbeeaa
open Go.RowKit Num

/-- a number handed over -/
structure Arg where
  a : Option Addr
  n : Nat
  c : Nat
  k : Nat
  v : Nat

def Arg.val (s : Arg) : Value := .slice s.a s.n s.c

/-- none of the numbers has more than 4,096 bits -/
def mayB (L : List Nat) : Bool := L.all fun v => decide (bitLen v ≤ 4096)

theorem mayB_snoc (L : List Nat) (v : Nat) : mayB (L ++ [v]) = (mayB L && decide (bitLen v ≤ 4096)) := by
  simp [mayB, List.all_append]

theorem under_nats : Try.prog.underlying 101 = some (.slice 23) := by kernel_rfl

set_option maxHeartbeats 400000 in
theorem may_any (L : List Arg) (b : Nat) (w : World) (hr : Row w b 23 (L.map Arg.val)) (h : ∀ s ∈ L, Nm w s.a s.n s.c s.k s.v) (hl : L.length ≤ 100) (n : Nat) (hn : n = L.length) :
    Calls Try.prog 79 #[.slice (some ⟨b, 0, none⟩) n n] w fun e w' => e = .returned (.bool (mayB (L.map Arg.v))) ∧ w = w' := by
  have hn1 : n ≤ 100 := by omega
  have HN := mkHid hn
  clear hn
  obtain ⟨R, hR⟩ : ∃ R, R = mayB (L.map Arg.v) := ⟨_, rfl⟩
  rw [← hR]
  have HR := mkHid hR
  clear hR
  go_enter Try.func79, Try.ntmps79
  go_wp2
  go_loop [7] (fun iv => ∃ i : Nat, i ≤ n ∧ iv = .int .i64 i ∧ Hid (mayB ((L.take i).map Arg.v) = true)) (fun iv => n - (intOf iv).toNat)
  case atStart => exact ⟨0, Nat.zero_le _, rfl, rfl⟩
  case round =>
    obtain ⟨i, hi, rfl, hm⟩ := hrel
    by_cases hlt : i < n
    · have hil : i < L.length := by rw [← HN.out]; exact hlt
      have hs := h L[i] (List.getElem_mem hil)
      have hc := hr.cell i
      rw [List.getElem?_map, List.getElem?_eq_getElem hil, Option.map_some] at hc
      have hst := mayB_snoc ((L.take i).map Arg.v) L[i].v
      have hsn : (L.take i).map Arg.v ++ [L[i].v] = (L.take (i + 1)).map Arg.v := by rw [take_snoc _ _ hil, List.map_append]; rfl
      rw [hsn, hm.out, Bool.true_and] at hst
      generalize L[i] = s at hs hc hst hsn
      obtain ⟨a, m, c, k, v⟩ := s
      dsimp only [Arg.val] at hs hc hst
      obtain ⟨B, hB⟩ : ∃ B, B = bitLen v := ⟨_, rfl⟩
      have hbits := bits_nm hs
      rw [← hB] at hbits hst
      have hb4 : B < 9223372036854775808 := by
        have := (bitLen_le v k).2 hs.lt.out
        have := hs.hm
        omega
      have HBT := mkHid hbits
      have HST := mkHid hst
      clear hst hsn hbits hB
      by_cases hle : B ≤ 4096
      · have t1 : decide (4096 < (B : Int)) = false := decide_eq_false (by omega)
        have HLE := mkHid hle
        clear hle
        go_wp2_with (go_at_call 28; (with_reducible refine HBT.out.mono ?_); rintro e w' ⟨rfl, rfl⟩)
        go_round
        case rel => exact ⟨i + 1, by omega, by go_num, by show _ = _; rw [HST.out]; exact decide_eq_true HLE.out⟩
        case measure => simp [intOf]; omega
      · have t1 : decide (4096 < (B : Int)) = true := decide_eq_true (by omega)
        have HLE := mkHid hle
        clear hle
        go_wp2_with (go_at_call 28; (with_reducible refine HBT.out.mono ?_); rintro e w' ⟨rfl, rfl⟩)
        go_ret
        refine ⟨?_, rfl⟩
        have : R = false := by
          rw [HR.out]
          have h1 : mayB ((L.take (i + 1)).map Arg.v) = false := by rw [HST.out]; exact decide_eq_false HLE.out
          cases hcs : mayB (L.map Arg.v) with
          | false => rfl
          | true =>
            exfalso
            rw [← Bool.not_eq_true] at h1
            apply h1
            simp only [mayB, List.all_eq_true, List.mem_map] at hcs ⊢
            rintro x ⟨s, hs', rfl⟩
            exact hcs _ ⟨s, List.mem_of_mem_take hs', rfl⟩
        rw [this]
        rfl
    · obtain rfl : i = n := by omega
      go_wp2
      go_ret
      refine ⟨?_, rfl⟩
      have : R = true := by rw [HR.out, ← hm.out, List.take_of_length_le (by rw [← HN.out]; exact Nat.le_refl _)]
      rw [this]
      rfl

theorem rest_any {w : World} {a1 a2 : Option Addr} {n1 c1 n2 c2 m k u v : Nat} (h : Nm w a1 n1 c1 m u) (h' : Nm w a2 n2 c2 k v) (hv : 0 < v) :
    Calls Try.prog 78 #[.slice a1 n1 c1, .slice a2 n2 c2] w (GivesC w k (u % v)) := by
  go_enter Try.func78, Try.ntmps78
  go_wp2_with (go_at_call 16; (with_reducible refine (quo_nm h h' hv).mono ?_); rintro e w' ⟨a3, n3, c3, a4, n4, c4, rfl, _, hr, hb⟩)
  go_ret
  exact ⟨_, _, _, rfl, hr, hb⟩

end Go.Proofs.Ytaeamlldocbeeaa

/- modarith: Mod, Mul, Gcd, Inverse. -/

namespace Go.Proofs.Ytaeamlldocbeeaa
open Go.RowKit Num

theorem Cn.zero {w : World} {a : Option Addr} {n c k : Nat} (h : Cn w a n c k 0) : n = 0 := by
  have := h.sl.len
  rw [dig_zero] at this
  exact this.symm

theorem Cn.pos {w : World} {a : Option Addr} {n c k v : Nat} (h : Cn w a n c k v) (hv : 0 < v) : 0 < n := by
  rw [← h.sl.len]
  exact (lt_dig_length 18446744073709551616 (by omega) 0 v).2 (by rw [Nat.pow_zero]; exact hv)

theorem Cn.nilCn (w : World) (a : Option Addr) (c k : Nat) (hk : k ≤ 1000000) (h : Sl .u64 w a 0 c []) : Cn w a 0 c k 0 := ⟨by rw [dig_zero]; exact h, ⟨Nat.two_pow_pos k⟩, hk⟩

theorem bl0 {v : Nat} (h : v = 0) : bitLen v = 0 := by rw [h]; rfl

theorem bl_pos {v : Nat} (h : 0 < v) : 0 < bitLen v := (lt_bitLen v 0).2 (by rw [Nat.pow_zero]; exact h)

theorem Nm.bl {w : World} {a : Option Addr} {n c m v : Nat} (h : Nm w a n c m v) : bitLen v ≤ 1000000 := Nat.le_trans ((bitLen_le v m).2 h.lt.out) h.hm

section
variable {w : World} {a1 a2 a3 : Option Addr} {n1 c1 n2 c2 n3 c3 m k l u v x : Nat}

theorem may1 (h1 : Nm w a1 n1 c1 m u) : Calls Try.prog 79 #[.slice (some ⟨w.heap.size, 0, none⟩) 1 1] (w.alloc (Obj.cells #[.slice a1 n1 c1] 23)) fun e w' =>
    e = .returned (.bool (mayB [u])) ∧ Below w.heap.size w w' := by
  refine (may_any [⟨a1, n1, c1, m, u⟩] w.heap.size _ (newRows w 23 #[.slice a1 n1 c1]) ?_ (by simp) 1 rfl).mono ?_
  · intro s hs
    simp at hs
    subst hs
    exact h1.alloc _
  · rintro _ _ ⟨rfl, rfl⟩
    exact ⟨rfl, below_alloc _ (Nat.le_refl _)⟩

theorem may2 (h1 : Nm w a1 n1 c1 m u) (h2 : Nm w a2 n2 c2 k v) : Calls Try.prog 79 #[.slice (some ⟨w.heap.size, 0, none⟩) 2 2] (w.alloc (Obj.cells #[.slice a1 n1 c1, .slice a2 n2 c2] 23)) fun e w' =>
    e = .returned (.bool (mayB [u, v])) ∧ Below w.heap.size w w' := by
  refine (may_any [⟨a1, n1, c1, m, u⟩, ⟨a2, n2, c2, k, v⟩] w.heap.size _ (newRows w 23 #[.slice a1 n1 c1, .slice a2 n2 c2]) ?_ (by simp) 2 rfl).mono ?_
  · intro s hs
    simp at hs
    rcases hs with rfl | rfl
    · exact h1.alloc _
    · exact h2.alloc _
  · rintro _ _ ⟨rfl, rfl⟩
    exact ⟨rfl, below_alloc _ (Nat.le_refl _)⟩

theorem may3 (h1 : Nm w a1 n1 c1 m u) (h2 : Nm w a2 n2 c2 k v) (h3 : Nm w a3 n3 c3 l x) : Calls Try.prog 79 #[.slice (some ⟨w.heap.size, 0, none⟩) 3 3]
    (w.alloc (Obj.cells #[.slice a1 n1 c1, .slice a2 n2 c2, .slice a3 n3 c3] 23)) fun e w' => e = .returned (.bool (mayB [u, v, x])) ∧ Below w.heap.size w w' := by
  refine (may_any [⟨a1, n1, c1, m, u⟩, ⟨a2, n2, c2, k, v⟩, ⟨a3, n3, c3, l, x⟩] w.heap.size _ (newRows w 23 #[.slice a1 n1 c1, .slice a2 n2 c2, .slice a3 n3 c3]) ?_ (by simp) 3 rfl).mono ?_
  · intro s hs
    simp at hs
    rcases hs with rfl | rfl | rfl
    · exact h1.alloc _
    · exact h2.alloc _
    · exact h3.alloc _
  · rintro _ _ ⟨rfl, rfl⟩
    exact ⟨rfl, below_alloc _ (Nat.le_refl _)⟩

/-- nothing, and no, are the results -/
def GivesNo (w : World) (e : Ending) (w' : World) : Prop :=
  ∃ a c, e = .returned (.tuple #[.slice a 0 c, .bool false]) ∧ Below w.heap.size w w'

theorem mmod_yes (h : Nm w a1 n1 c1 m u) (h' : Nm w a2 n2 c2 k v) (hv : 0 < v) (hm : mayB [u, v] = true) :
    Calls Try.prog 51 #[.slice a1 n1 c1, .slice a2 n2 c2] w (GivesCB w true k (u % v)) := by
  obtain ⟨B, hB⟩ : ∃ B, B = bitLen v := ⟨_, rfl⟩
  have hbits := bits_nm h'
  have hb0 := bl_pos hv
  have hmay := may2 h h'
  rw [← hB] at hbits hb0
  rw [hm] at hmay
  have HBT := mkHid hbits
  have HMY := mkHid hmay
  have t1 : ((B : Int) == 0) = false := beq_f (n := 0) (by omega)
  clear hB hbits hm hmay
  go_enter Try.func51, Try.ntmps51
  go_wp2_with (first
    | (go_at_call 28; (with_reducible refine HBT.out.mono ?_); rintro e w' ⟨rfl, rfl⟩)
    | (go_at_call 79; (with_reducible refine HMY.out.mono ?_); rintro e w1 ⟨rfl, hb1⟩; have hA := h.keep hb1; have hM := h'.keep hb1)
    | (go_at_call 78; (with_reducible refine (rest_any hA hM hv).mono ?_); rintro e w2 ⟨a4, n4, c4, rfl, hr, hb2⟩))
  go_ret2
  exact ⟨a4, n4, c4, rfl, hr, hb1.trans (hb2.mono hb1.size)⟩

theorem mmod_zero (h' : Nm w a2 n2 c2 k 0) : Calls Try.prog 51 #[.slice a1 n1 c1, .slice a2 n2 c2] w (GivesNo w) := by
  have hbits := bits_nm h'
  have HBT := mkHid hbits
  clear hbits
  go_enter Try.func51, Try.ntmps51
  go_wp2_with (go_at_call 28; (with_reducible refine HBT.out.mono ?_); rintro e w' ⟨rfl, rfl⟩; rw [bitLen_zero])
  go_ret2
  exact ⟨none, 0, rfl, Below.refl _ _⟩

theorem mmod_big (h : Nm w a1 n1 c1 m u) (h' : Nm w a2 n2 c2 k v) (hv : 0 < v) (hm : mayB [u, v] = false) :
    Calls Try.prog 51 #[.slice a1 n1 c1, .slice a2 n2 c2] w (GivesNo w) := by
  obtain ⟨B, hB⟩ : ∃ B, B = bitLen v := ⟨_, rfl⟩
  have hbits := bits_nm h'
  have hb0 := bl_pos hv
  have hmay := may2 h h'
  rw [← hB] at hbits hb0
  rw [hm] at hmay
  have HBT := mkHid hbits
  have HMY := mkHid hmay
  have t1 : ((B : Int) == 0) = false := beq_f (n := 0) (by omega)
  clear hB hbits hm hmay
  go_enter Try.func51, Try.ntmps51
  go_wp2_with (first
    | (go_at_call 28; (with_reducible refine HBT.out.mono ?_); rintro e w' ⟨rfl, rfl⟩)
    | (go_at_call 79; (with_reducible refine HMY.out.mono ?_); rintro e w1 ⟨rfl, hb1⟩))
  go_ret2
  exact ⟨none, 0, rfl, hb1⟩

theorem mmul_yes (h : Nm w a1 n1 c1 m u) (h' : Nm w a2 n2 c2 k v) (h'' : Nm w a3 n3 c3 l x) (hv : 0 < x) (hm : mayB [u, v, x] = true) (hs : m + k ≤ 1000000) :
    Calls Try.prog 53 #[.slice a1 n1 c1, .slice a2 n2 c2, .slice a3 n3 c3] w (GivesCB w true l (u * v % x)) := by
  obtain ⟨B, hB⟩ : ∃ B, B = bitLen x := ⟨_, rfl⟩
  have hbits := bits_nm h''
  have hb0 := bl_pos hv
  have hmay := may3 h h' h''
  rw [← hB] at hbits hb0
  rw [hm] at hmay
  have HBT := mkHid hbits
  have HMY := mkHid hmay
  have t1 : ((B : Int) == 0) = false := beq_f (n := 0) (by omega)
  clear hB hbits hm hmay
  go_enter Try.func53, Try.ntmps53
  go_wp2_with (first
    | (go_at_call 28; (with_reducible refine HBT.out.mono ?_); rintro e w' ⟨rfl, rfl⟩)
    | (go_at_call 79; (with_reducible refine HMY.out.mono ?_); rintro e w1 ⟨rfl, hb1⟩; have hA := h.keep hb1; have hB := h'.keep hb1; have hM := h''.keep hb1)
    | (go_at_call 34; (with_reducible refine (mul_nm hA hB hs).mono ?_); rintro e w2 ⟨a4, n4, c4, rfl, hp, hb2⟩; have hP := hp.nm; have hM2 := hM.keep hb2)
    | (go_at_call 78; (with_reducible refine (rest_any hP hM2 hv).mono ?_); rintro e w3 ⟨a5, n5, c5, rfl, hr, hb3⟩))
  go_ret2
  exact ⟨a5, n5, c5, rfl, hr, hb1.trans ((hb2.trans (hb3.mono hb2.size)).mono hb1.size)⟩

theorem mmul_zero (h'' : Nm w a3 n3 c3 l 0) : Calls Try.prog 53 #[.slice a1 n1 c1, .slice a2 n2 c2, .slice a3 n3 c3] w (GivesNo w) := by
  have hbits := bits_nm h''
  have HBT := mkHid hbits
  clear hbits
  go_enter Try.func53, Try.ntmps53
  go_wp2_with (go_at_call 28; (with_reducible refine HBT.out.mono ?_); rintro e w' ⟨rfl, rfl⟩; rw [bitLen_zero])
  go_ret2
  exact ⟨none, 0, rfl, Below.refl _ _⟩

set_option maxHeartbeats 400000 in
theorem gcd_any (h : Nm w a1 n1 c1 m u) (h' : Nm w a2 n2 c2 m v) : Calls Try.prog 42 #[.slice a1 n1 c1, .slice a2 n2 c2] w (GivesC w m (Nat.gcd u v)) := by
  obtain ⟨G, hG⟩ : ∃ G, G = Nat.gcd u v := ⟨_, rfl⟩
  rw [← hG]
  have HG := mkHid hG.symm
  clear hG
  go_enter Try.func42, Try.ntmps42
  go_wp2_with (first
    | (go_at_call 37; (with_reducible refine (norm_nm h).mono ?_); rintro e w1 ⟨a3, n3, c3, rfl, hA, hb1⟩; have hB0 := h'.keep hb1)
    | (go_at_call 37; (with_reducible refine (norm_nm hB0).mono ?_); rintro e w2 ⟨a4, n4, c4, rfl, hB, hb2⟩))
  have hA2 := hA.keep hb2
  have hbT := hb1.trans (hb2.mono hb1.size)
  clear hA hB0 hb1 hb2
  go_loopg [0, 1] (v + 1) (fun g p q wr => ∃ a n c a' n' c' u v, p = .slice a n c ∧ q = .slice a' n' c' ∧ Cn wr a n c m u ∧ Cn wr a' n' c' m v ∧ Hid (Nat.gcd u v = G ∧ v < g) ∧ Below w.heap.size w wr)
  case atStart => exact ⟨_, _, _, _, _, _, _, _, rfl, rfl, hA2, hB, ⟨HG.out, by omega⟩, hbT⟩
  case round =>
    clear hA2 hB hbT
    obtain ⟨a, n, c, a', n', c', u, v, rfl, rfl, hA, hB, hg, hbT⟩ := hrel
    by_cases hv : 0 < v
    · have t1 : decide (0 < n') = true := decide_eq_true (hB.pos hv)
      have HV := mkHid hv
      clear hv
      go_wp2_with (first
        | (go_at_call 78; (with_reducible refine (rest_any hA.nm hB.nm HV.out).mono ?_); rintro e w3 ⟨a5, n5, c5, rfl, hr, hb3⟩))
      go_roundg v
      case measure => exact hg.out.2
      case rel => exact ⟨_, _, _, _, _, _, _, _, rfl, rfl, hB.keep hb3, hr, ⟨by rw [← hg.out.1, Nat.gcd_comm v, ← Nat.gcd_rec, Nat.gcd_comm], Nat.mod_lt _ HV.out⟩, hbT.trans (hb3.mono hbT.size)⟩
    · obtain rfl : v = 0 := by omega
      obtain rfl : n' = 0 := hB.zero
      have hgu := hg.out.1
      rw [Nat.gcd_zero_right] at hgu
      have HGU := mkHid hgu
      clear hgu hg
      go_wp2
      go_ret
      exact ⟨a, n, c, rfl, by rw [← HGU.out]; exact hA, hbT⟩

end

end Go.Proofs.Ytaeamlldocbeeaa

/- modarith: Inverse. -/

namespace Go.Proofs.Ytaeamlldocbeeaa
open Go.RowKit Num

/-- Euclid's steps with the multiples beside them: what is left, and its multiple -/
def invL (m r s t u : Nat) : Nat × Nat :=
  if _h : 0 < s then invL m s (r % s) u ((t + m - r / s * u % m) % m) else (r, t)
termination_by s
decreasing_by exact Nat.mod_lt _ _h

theorem invL_pos (m r s t u : Nat) (h : 0 < s) : invL m r s t u = invL m s (r % s) u ((t + m - r / s * u % m) % m) := by
  rw [invL, dif_pos h]

theorem invL_zero (m r t u : Nat) : invL m r 0 t u = (r, t) := by
  rw [invL, dif_neg (by omega)]

theorem of_nm (x m : Nat) (hx : x < 18446744073709551616) (hm : Lt2 m x) (hm2 : m ≤ 1000000) (w : World) : Calls Try.prog 62 #[.int .u64 (x : Int)] w (GivesC w m x) :=
  (of_any x hx w).mono fun _ _ hg => hg.c hm hm2

theorem of_nm1 (m : Nat) (hm : 1 ≤ m) (hm2 : m ≤ 1000000) (w : World) : Calls Try.prog 62 #[.int .u64 1] w (GivesC w m 1) :=
  of_nm 1 m (by omega) ⟨by have := Nat.pow_le_pow_right (n := 2) (by omega) hm; omega⟩ hm2 w

theorem of_nm2 (m : Nat) (hm : 2 ≤ m) (hm2 : m ≤ 1000000) (w : World) : Calls Try.prog 62 #[.int .u64 2] w (GivesC w m 2) :=
  of_nm 2 m (by omega) ⟨by have := Nat.pow_le_pow_right (n := 2) (by omega) hm; omega⟩ hm2 w

theorem of_nm3 (m : Nat) (hm : 2 ≤ m) (hm2 : m ≤ 1000000) (w : World) : Calls Try.prog 62 #[.int .u64 3] w (GivesC w m 3) :=
  of_nm 3 m (by omega) ⟨by have := Nat.pow_le_pow_right (n := 2) (by omega) hm; omega⟩ hm2 w

theorem bl_one {v : Nat} : bitLen v = 1 ↔ v = 1 := by
  constructor
  · intro h
    have h1 := (bitLen_le v 1).1 (by omega)
    have h2 := (lt_bitLen v 0).1 (by omega)
    omega
  · rintro rfl
    rfl

theorem bl_lt2 {v : Nat} : bitLen v < 2 ↔ v < 2 := by
  have := bitLen_le v 1
  rw [Nat.pow_one] at this
  omega

theorem Lt2.one (k : Nat) (hk : 1 ≤ k) : Lt2 k 1 := ⟨by have := Nat.pow_le_pow_right (n := 2) (by omega) hk; omega⟩

section
variable {w : World} {a1 a2 a3 : Option Addr} {n1 c1 n2 c2 n3 c3 m k l u v x : Nat}

/-- what Inverse answers -/
def GivesInv (w : World) (k : Nat) (RT : Nat × Nat) (e : Ending) (w' : World) : Prop :=
  (RT.1 = 1 → GivesCB w true k RT.2 e w') ∧ (¬ RT.1 = 1 → GivesNo w e w')

theorem inv_small (h' : Nm w a2 n2 c2 k v) (hv : v < 2) : Calls Try.prog 44 #[.slice a1 n1 c1, .slice a2 n2 c2] w (GivesNo w) := by
  obtain ⟨B, hB⟩ : ∃ B, B = bitLen v := ⟨_, rfl⟩
  have hbits := bits_nm h'
  have hb0 := bl_lt2.2 hv
  rw [← hB] at hbits hb0
  have HBT := mkHid hbits
  have t1 : decide ((B : Int) < 2) = true := decide_eq_true (by omega)
  clear hB hbits
  go_enter Try.func44, Try.ntmps44
  go_wp2_with (go_at_call 28; (with_reducible refine HBT.out.mono ?_); rintro e w' ⟨rfl, rfl⟩)
  go_ret2
  exact ⟨none, 0, rfl, Below.refl _ _⟩

theorem inv_bigm (h : Nm w a1 n1 c1 m u) (h' : Nm w a2 n2 c2 k v) (hv : 2 ≤ v) (hm : mayB [u, v] = false) : Calls Try.prog 44 #[.slice a1 n1 c1, .slice a2 n2 c2] w (GivesNo w) := by
  obtain ⟨B, hB⟩ : ∃ B, B = bitLen v := ⟨_, rfl⟩
  have hbits := bits_nm h'
  have hb0 : ¬ bitLen v < 2 := fun h => by have := bl_lt2.1 h; omega
  have hmay := may2 h h'
  rw [← hB] at hbits hb0
  rw [hm] at hmay
  have HBT := mkHid hbits
  have HMY := mkHid hmay
  have t1 : decide ((B : Int) < 2) = false := decide_eq_false (by omega)
  clear hB hbits hmay hm
  go_enter Try.func44, Try.ntmps44
  go_wp2_with (first
    | (go_at_call 28; (with_reducible refine HBT.out.mono ?_); rintro e w' ⟨rfl, rfl⟩)
    | (go_at_call 79; (with_reducible refine HMY.out.mono ?_); rintro e w1 ⟨rfl, hb1⟩))
  go_ret2
  exact ⟨none, 0, rfl, hb1⟩

set_option maxHeartbeats 1000000 in
theorem inv_any (h : Nm w a1 n1 c1 m u) (h' : Nm w a2 n2 c2 k v) (hv : 2 ≤ v) (hm : mayB [u, v] = true) (hk : k ≤ 400000) : Calls Try.prog 44 #[.slice a1 n1 c1, .slice a2 n2 c2] w (GivesInv w k (invL v v (u % v) 0 1)) := by
  obtain ⟨B, hB⟩ : ∃ B, B = bitLen v := ⟨_, rfl⟩
  have hbits := bits_nm h'
  have hb0 : ¬ bitLen v < 2 := fun h => by have := bl_lt2.1 h; omega
  have hmay := may2 h h'
  have hk1 : 1 ≤ k := by
    rcases Nat.eq_zero_or_pos k with h0 | h0
    · have := h'.lt.out; rw [h0, Nat.pow_zero] at this; omega
    · exact h0
  rw [← hB] at hbits hb0
  rw [hm] at hmay
  have HBT := mkHid hbits
  have HMY := mkHid hmay
  have t1 : decide ((B : Int) < 2) = false := decide_eq_false (by omega)
  clear hB hbits hmay hm
  obtain ⟨RT, hRT⟩ : ∃ RT, RT = invL v v (u % v) 0 1 := ⟨_, rfl⟩
  rw [← hRT]
  have HRT := mkHid hRT
  clear hRT
  go_enter Try.func44, Try.ntmps44
  go_wp2_with (first
    | (go_at_call 28; (with_reducible refine HBT.out.mono ?_); rintro e w' ⟨rfl, rfl⟩)
    | (go_at_call 79; (with_reducible refine HMY.out.mono ?_); rintro e w1 ⟨rfl, hb1⟩; have hA := h.keep hb1; have hM := h'.keep hb1)
    | (go_at_call 37; (with_reducible refine (norm_nm hM).mono ?_); rintro e w2 ⟨a3, n3, c3, rfl, hR, hb2⟩; have hA2 := hA.keep hb2; have hM2 := hM.keep hb2)
    | (go_at_call 78; (with_reducible refine (rest_any hA2 hM2 (by omega)).mono ?_); rintro e w3 ⟨a4, n4, c4, rfl, hS, hb3⟩; have hR3 := hR.keep hb3; have hM3 := hM2.keep hb3)
    | (go_at_call 62; (with_reducible refine (of_nm1 k hk1 (by omega) _).mono ?_); rintro e w4 ⟨a5, n5, c5, rfl, hU, hb4⟩))
  have hR4 := hR3.keep hb4
  have hS4 := hS.keep hb4
  have hM4 := hM3.keep hb4
  have hbT := hb1.trans ((hb2.trans ((hb3.trans (hb4.mono hb3.size)).mono hb2.size)).mono hb1.size)
  have hT4 := Cn.nilCn w4 none 0 k (by omega) (Sl.nilSl _ _)
  have hlt := mkHid h'.lt
  clear hR3 hS hM3 hb4 hb3 hb2 hb1 hR hM2 hA2 hA hM h h'
  go_loopg [6, 7, 8, 9] (u % v + 1) (fun g rv sv tv uv wr => ∃ a n c a' n' c' b o d b' o' d' r s t z, rv = .slice a n c ∧ sv = .slice a' n' c' ∧ tv = .slice b o d ∧ uv = .slice b' o' d' ∧
    Cn wr a n c k r ∧ Cn wr a' n' c' k s ∧ Cn wr b o d k t ∧ Cn wr b' o' d' k z ∧ Hid (invL v r s t z = RT ∧ s < g ∧ t < v ∧ z < v) ∧ Nm wr a2 n2 c2 k v ∧ Below w.heap.size w wr)
  case atStart => exact ⟨_, _, _, _, _, _, _, _, _, _, _, _, _, _, _, _, rfl, rfl, rfl, rfl, hR4, hS4, hT4, hU, ⟨HRT.out.symm, by omega, by omega, by omega⟩, hM4, hbT⟩
  case round =>
    clear hR4 hS4 hT4 hU hM4 hbT
    obtain ⟨a, n, c, a', n', c', b, o, d, b', o', d', r, s, t, z, rfl, rfl, rfl, rfl, hR, hS, hT, hU, hi, hM, hbT⟩ := hrel
    by_cases hs : 0 < s
    · have t2 : decide (0 < n') = true := decide_eq_true (hS.pos hs)
      have HS := mkHid hs
      clear hs
      go_wp2_with (first
        | (go_at_call 16; (with_reducible refine (quo_nm hR.nm hS.nm HS.out).mono ?_); rintro e w5 ⟨a6, n6, c6, a7, n7, c7, rfl, hQ, hL, hb5⟩; have hM5 := hM.keep hb5; have hU5 := hU.keep hb5; have hT5 := hT.keep hb5; have hS5 := hS.keep hb5)
        | (go_at_call 34; (with_reducible refine (mul_nm hQ.nm hU5.nm (by omega)).mono ?_); rintro e w6 ⟨a8, n8, c8, rfl, hP, hb6⟩; have hM6 := hM5.keep hb6; have hT6 := hT5.keep hb6; have hL6 := hL.keep hb6; have hS6 := hS5.keep hb6; have hU6 := hU5.keep hb6)
        | (go_at_call 78; (with_reducible refine (rest_any hP.nm hM6 (by omega)).mono ?_); rintro e w7 ⟨a9, n9, c9, rfl, hZ, hb7⟩; have hM7 := hM6.keep hb7; have hT7 := hT6.keep hb7; have hL7 := hL6.keep hb7; have hS7 := hS6.keep hb7; have hU7 := hU6.keep hb7)
        | (go_at_call 35; (with_reducible refine (add_nm hT7.nm hM7 (by omega)).mono ?_); rintro e w8 ⟨a10, n10, c10, rfl, hX, hb8⟩; have hM8 := hM7.keep hb8; have hZ8 := hZ.keep hb8)
        | (go_at_call 38; (with_reducible refine (sub_nm hX.nm hZ8.nm).mono ?_); rintro e w9 ⟨a11, n11, c11, rfl, hY, hb9⟩; have hM9 := hM8.keep hb9)
        | (go_at_call 78; (with_reducible refine (rest_any hY.nm hM9 (by omega)).mono ?_); rintro e w10 ⟨a12, n12, c12, rfl, hV, hb10⟩))
      go_roundg s
      case measure => exact hi.out.2.1
      case rel =>
        have hb79 := hb8.trans ((hb9.trans (hb10.mono hb9.size)).mono hb8.size)
        have hb59 := hb5.trans ((hb6.trans ((hb7.trans (hb79.mono hb7.size)).mono hb6.size)).mono hb5.size)
        refine ⟨_, _, _, _, _, _, _, _, _, _, _, _, _, _, _, _, rfl, rfl, rfl, rfl, hS7.keep hb79, hL7.keep hb79, hU7.keep hb79, hV, ⟨?_, Nat.mod_lt _ HS.out, hi.out.2.2.2, Nat.mod_lt _ (by omega)⟩, (hM9.keep hb10), hbT.trans (hb59.mono hbT.size)⟩
        rw [← invL_pos _ _ _ _ _ HS.out]
        exact hi.out.1
    · obtain rfl : s = 0 := by omega
      obtain rfl : n' = 0 := hS.zero
      have hrt := hi.out.1
      rw [invL_zero] at hrt
      obtain ⟨B2, hB2⟩ : ∃ B, B = bitLen r := ⟨_, rfl⟩
      have hbits := bits_nm hR.nm
      rw [← hB2] at hbits
      have HBT2 := mkHid hbits
      have HRT2 := mkHid hrt
      have H1 : Hid (B2 = 1 ↔ r = 1) := by rw [hB2]; exact bl_one
      clear hB2 hbits hrt hi
      by_cases h1 : B2 = 1
      · have t3 : ((B2 : Int) != 1) = false := bne_f (n := 1) h1
        have HR1 := mkHid (H1.out.1 h1)
        clear h1
        go_wp2_with (go_at_call 28; (with_reducible refine HBT2.out.mono ?_); rintro e w' ⟨rfl, rfl⟩)
        go_ret2
        exact ⟨fun _ => ⟨b, o, d, rfl, by rw [← HRT2.out]; exact hT, hbT⟩, fun h => absurd (by rw [← HRT2.out]; exact HR1.out) h⟩
      · have t3 : ((B2 : Int) != 1) = true := bne_t (n := 1) h1
        have HR1 : Hid (¬ r = 1) := fun h => h1 (H1.out.2 h)
        clear h1
        go_wp2_with (go_at_call 28; (with_reducible refine HBT2.out.mono ?_); rintro e w' ⟨rfl, rfl⟩)
        go_ret2
        exact ⟨fun h => absurd (by rw [← HRT2.out] at h; exact h) HR1.out, fun _ => ⟨none, 0, rfl, hbT⟩⟩

end

end Go.Proofs.Ytaeamlldocbeeaa
