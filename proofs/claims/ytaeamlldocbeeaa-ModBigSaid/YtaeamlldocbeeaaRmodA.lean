/- RmodA: Rmod1, Rmod2. -/
import Derived.Test.YtaeamlldocbeeaaMod4
import Derived.Test.YtaeamlldocbeeaaMod5

/- baileyref2: Mod, Mul, Exp, Gcd, Inverse, odd. -/

namespace Go.Proofs.Ytaeamlldocbeeaa
open Go.RowKit Num

theorem Rf.zero {w : World} {a : Option Addr} {n c k : Nat} (h : Rf w a n c k 0) : n = 0 := by
  have := h.sl.len
  rw [dig_zero] at this
  exact this.symm

theorem Rf.pos {w : World} {a : Option Addr} {n c k v : Nat} (h : Rf w a n c k v) (hv : 0 < v) : 0 < n := by
  rw [← h.sl.len]
  exact (lt_dig_length 4294967296 (by omega) 0 v).2 (by rw [Nat.pow_zero]; exact hv)

theorem Rf.nilRf (w : World) (k : Nat) (hk : k ≤ 1000000) : Rf w none 0 0 k 0 := ⟨by rw [dig_zero]; exact Sl.nilSl _ _, ⟨Nat.two_pow_pos k⟩, hk⟩

theorem Rf.tight {w : World} {a : Option Addr} {n c m k v : Nat} (h : Rf w a n c m v) (hl : v < 2 ^ k) (hk : k ≤ 1000000) : Rf w a n c k v := ⟨h.sl, ⟨hl⟩, hk⟩

/-- a new block of one number, read -/
theorem nm_one (w : World) (x m : Nat) (hx : x < 18446744073709551616) (hl : x < 2 ^ m) (hm : m ≤ 1000000) : Nm (w.alloc (Obj.cells #[Value.int .u64 (x : Int)] 54)) (some ⟨w.heap.size, 0, none⟩) 1 1 m x :=
  ⟨⟨[x], (Blk.new1 w .u64 54 x).sl 1 rfl (by omega), Dg.cons hx Dg.nil, by simp [val]⟩, ⟨hl⟩, hm, by omega⟩

theorem rof_nm (x m : Nat) (hx : x < 18446744073709551616) (hl : x < 2 ^ m) (hm : m ≤ 1000000) (w : World) : Calls Try.prog 45 #[.int .u64 (x : Int)] w (GivesF w m x) := by
  have h1 := mkHid (from_nm (nm_one w x m hx hl hm))
  have hb := below_alloc (Obj.cells #[Value.int .u64 (x : Int)] 54) (Nat.le_refl w.heap.size)
  go_enter Try.func45, Try.ntmps45
  go_wp2_with (go_at_call 15; (with_reducible refine h1.out.mono ?_); rintro e w' ⟨a, n, c, rfl, hr, hb1⟩)
  go_ret
  exact ⟨a, n, c, rfl, hr, hb.trans (hb1.mono hb.size)⟩

theorem rof1 (m : Nat) (hm : 2 ≤ m) (hm2 : m ≤ 1000000) (w : World) : Calls Try.prog 45 #[.int .u64 1] w (GivesF w m 1) :=
  rof_nm 1 m (by omega) (by have := Nat.pow_le_pow_right (n := 2) (by omega) hm; omega) hm2 w

theorem rof2 (m : Nat) (hm : 2 ≤ m) (hm2 : m ≤ 1000000) (w : World) : Calls Try.prog 45 #[.int .u64 2] w (GivesF w m 2) :=
  rof_nm 2 m (by omega) (by have := Nat.pow_le_pow_right (n := 2) (by omega) hm; omega) hm2 w

theorem rof3 (m : Nat) (hm : 2 ≤ m) (hm2 : m ≤ 1000000) (w : World) : Calls Try.prog 45 #[.int .u64 3] w (GivesF w m 3) :=
  rof_nm 3 m (by omega) (by have := Nat.pow_le_pow_right (n := 2) (by omega) hm; omega) hm2 w

section
variable {w : World} {a1 a2 a3 : Option Addr} {n1 c1 n2 c2 n3 c3 m k l u v x : Nat}

theorem rmod_nm (h : Rf w a1 n1 c1 m u) (h' : Rf w a2 n2 c2 k v) (hv : 0 < v) : Calls Try.prog 54 #[.slice a1 n1 c1, .slice a2 n2 c2] w (GivesF w k (u % v)) := by
  go_enter Try.func54, Try.ntmps54
  go_wp2_with (go_at_call 23; (with_reducible refine (rquo_nm h h' hv).mono ?_); rintro e w' ⟨a4, n4, c4, a5, n5, c5, rfl, _, hr, hb⟩)
  go_ret
  exact ⟨a5, n5, c5, rfl, hr, hb⟩

theorem rmulm_nm (h : Rf w a1 n1 c1 m u) (h' : Rf w a2 n2 c2 k v) (h'' : Rf w a3 n3 c3 l x) (hx : 0 < x) (hs : m + k ≤ 1000000) : Calls Try.prog 55 #[.slice a1 n1 c1, .slice a2 n2 c2, .slice a3 n3 c3] w (GivesF w l (u * v % x)) := by
  go_enter Try.func55, Try.ntmps55
  go_wp2_with (first
    | (go_at_call 19; (with_reducible refine (rmul_nm h h' hs).mono ?_); rintro e w1 ⟨a4, n4, c4, rfl, hp, hb1⟩; have h3 := h''.keep hb1)
    | (go_at_call 54; (with_reducible refine (rmod_nm hp h3 hx).mono ?_); rintro e w2 ⟨a5, n5, c5, rfl, hr, hb2⟩))
  go_ret
  exact ⟨a5, n5, c5, rfl, hr, hb1.trans (hb2.mono hb1.size)⟩

theorem rodd_nm (h : Rf w a1 n1 c1 m u) : Calls Try.prog 86 #[.slice a1 n1 c1] w fun e w' => e = .returned (.bool (decide (u % 2 = 1))) ∧ w = w' := by
  have hb := rbit_nm h 0 (by omega)
  rw [bit0] at hb
  obtain ⟨t, ht⟩ : ∃ t, t = u % 2 := ⟨_, rfl⟩
  rw [← ht] at hb ⊢
  have HB := mkHid hb
  have hd : ((t : Int) == 1) = decide (t = 1) := by
    rw [Bool.eq_iff_iff, beq_iff_eq, decide_eq_true_iff]; omega
  have HD := mkHid hd
  clear hb ht hd
  go_enter Try.func86, Try.ntmps86
  go_wp2_with (go_at_call 27; (with_reducible refine HB.out.mono ?_); rintro e w' ⟨rfl, rfl⟩)
  go_ret
  exact ⟨by rw [← HD.out]; rfl, rfl⟩

set_option maxHeartbeats 400000 in
theorem rgcd_nm (h : Rf w a1 n1 c1 m u) (h' : Rf w a2 n2 c2 m v) : Calls Try.prog 43 #[.slice a1 n1 c1, .slice a2 n2 c2] w (GivesF w m (Nat.gcd u v)) := by
  obtain ⟨G, hG⟩ : ∃ G, G = Nat.gcd u v := ⟨_, rfl⟩
  rw [← hG]
  have HG := mkHid hG.symm
  clear hG
  go_enter Try.func43, Try.ntmps43
  go_wp2
  go_loopg [0, 1] (v + 1) (fun g p q wr => ∃ a n c a' n' c' u v, p = .slice a n c ∧ q = .slice a' n' c' ∧ Rf wr a n c m u ∧ Rf wr a' n' c' m v ∧ Hid (Nat.gcd u v = G ∧ v < g) ∧ Below w.heap.size w wr)
  case atStart => exact ⟨_, _, _, _, _, _, _, _, rfl, rfl, h, h', ⟨HG.out, by omega⟩, Below.refl _ _⟩
  case round =>
    obtain ⟨a, n, c, a', n', c', u, v, rfl, rfl, hA, hB, hg, hbT⟩ := hrel
    by_cases hv : 0 < v
    · have t1 : decide (0 < n') = true := decide_eq_true (hB.pos hv)
      have HV := mkHid hv
      clear hv
      go_wp2_with (first
        | (go_at_call 54; (with_reducible refine (rmod_nm hA hB HV.out).mono ?_); rintro e w3 ⟨a5, n5, c5, rfl, hr, hb3⟩))
      go_roundg v
      case measure => exact hg.out.2
      case rel => exact ⟨_, _, _, _, _, _, _, _, rfl, rfl, hB.keep hb3, hr, ⟨by rw [← hg.out.1, Nat.gcd_comm v, ← Nat.gcd_rec, Nat.gcd_comm], Nat.mod_lt _ HV.out⟩, hbT.trans (hb3.mono hbT.size)⟩
    · obtain rfl : v = 0 := by omega
      obtain rfl : n' = 0 := hB.zero
      have hgu := hg.out.1
      rw [Nat.gcd_zero_right] at hgu
      have HGU := mkHid hgu
      clear hgu hg
      go_wp2
      go_ret
      exact ⟨a, n, c, rfl, by rw [← HGU.out]; exact hA, hbT⟩

/-- no number, and no -/
def GivesNoF (w : World) (e : Ending) (w' : World) : Prop := ∃ a c, e = .returned (.tuple #[.slice a 0 c, .bool false]) ∧ Below w.heap.size w w'

/-- a number of the reference and a bool are the results -/
def GivesFB (w : World) (ok : Bool) (m v : Nat) (e : Ending) (w' : World) : Prop :=
  ∃ a n c, e = .returned (.tuple #[.slice a n c, .bool ok]) ∧ Rf w' a n c m v ∧ Below w.heap.size w w'

/-- what the reference's Inverse answers -/
def GivesInvF (w : World) (k : Nat) (RT : Nat × Nat) (e : Ending) (w' : World) : Prop :=
  (RT.1 = 1 → GivesFB w true k RT.2 e w') ∧ (¬ RT.1 = 1 → GivesNoF w e w')

set_option maxHeartbeats 1000000 in
theorem rinv_nm (h : Rf w a1 n1 c1 m u) (h' : Rf w a2 n2 c2 k v) (hv : 2 ≤ v) (hk : k ≤ 400000) : Calls Try.prog 46 #[.slice a1 n1 c1, .slice a2 n2 c2] w (GivesInvF w k (invL v v (u % v) 0 1)) := by
  have hk1 : 2 ≤ k := by
    apply Decidable.byContradiction
    intro hc
    have h1 := h'.lt.out
    have h2 : 2 ^ k ≤ 2 ^ 1 := Nat.pow_le_pow_right (by omega) (by omega)
    omega
  obtain ⟨RT, hRT⟩ : ∃ RT, RT = invL v v (u % v) 0 1 := ⟨_, rfl⟩
  rw [← hRT]
  have HRT := mkHid hRT
  clear hRT
  go_enter Try.func46, Try.ntmps46
  go_wp2_with (first
    | (go_at_call 54; (with_reducible refine (rmod_nm h h' (by omega)).mono ?_); rintro e w3 ⟨a4, n4, c4, rfl, hS, hb3⟩; have hM3 := h'.keep hb3)
    | (go_at_call 45; (with_reducible refine (rof1 k hk1 (by omega) _).mono ?_); rintro e w4 ⟨a5, n5, c5, rfl, hU, hb4⟩))
  have hS4 := hS.keep hb4
  have hM4 := hM3.keep hb4
  have hbT := hb3.trans (hb4.mono hb3.size)
  have hT4 := Rf.nilRf w4 k (by omega)
  clear hS hM3 hb4 hb3 h
  go_loopg [6, 7, 8, 9] (u % v + 1) (fun g rv sv tv uv wr => ∃ a n c a' n' c' b o d b' o' d' r s t z, rv = .slice a n c ∧ sv = .slice a' n' c' ∧ tv = .slice b o d ∧ uv = .slice b' o' d' ∧
    Rf wr a n c k r ∧ Rf wr a' n' c' k s ∧ Rf wr b o d k t ∧ Rf wr b' o' d' k z ∧ Hid (invL v r s t z = RT ∧ s < g ∧ t < v ∧ z < v) ∧ Rf wr a2 n2 c2 k v ∧ Below w.heap.size w wr)
  case atStart => exact ⟨_, _, _, _, _, _, _, _, _, _, _, _, _, _, _, _, rfl, rfl, rfl, rfl, hM4, hS4, hT4, hU, ⟨HRT.out.symm, by omega, by omega, by omega⟩, hM4, hbT⟩
  case round =>
    clear hS4 hT4 hU hM4 hbT
    obtain ⟨a, n, c, a', n', c', b, o, d, b', o', d', r, s, t, z, rfl, rfl, rfl, rfl, hR, hS, hT, hU, hi, hM, hbT⟩ := hrel
    by_cases hs : 0 < s
    · have t2 : decide (0 < n') = true := decide_eq_true (hS.pos hs)
      have HS := mkHid hs
      have hsub := mkHid (show r / s * z % v ≤ t + v by have := Nat.mod_lt (r / s * z) (show 0 < v by omega); omega)
      clear hs
      go_wp2_with (first
        | (go_at_call 23; (with_reducible refine (rquo_nm hR hS HS.out).mono ?_); rintro e w5 ⟨a6, n6, c6, a7, n7, c7, rfl, hQ, hL, hb5⟩; have hM5 := hM.keep hb5; have hU5 := hU.keep hb5; have hT5 := hT.keep hb5; have hS5 := hS.keep hb5)
        | (go_at_call 19; (with_reducible refine (rmul_nm hQ hU5 (by omega)).mono ?_); rintro e w6 ⟨a8, n8, c8, rfl, hP, hb6⟩; have hM6 := hM5.keep hb6; have hT6 := hT5.keep hb6; have hL6 := hL.keep hb6; have hS6 := hS5.keep hb6; have hU6 := hU5.keep hb6)
        | (go_at_call 54; (with_reducible refine (rmod_nm hP hM6 (by omega)).mono ?_); rintro e w7 ⟨a9, n9, c9, rfl, hZ, hb7⟩; have hM7 := hM6.keep hb7; have hT7 := hT6.keep hb7; have hL7 := hL6.keep hb7; have hS7 := hS6.keep hb7; have hU7 := hU6.keep hb7)
        | (go_at_call 18; (with_reducible refine (radd_nm hT7 hM7 (by omega)).mono ?_); rintro e w8 ⟨a10, n10, c10, rfl, hX, hb8⟩; have hM8 := hM7.keep hb8; have hZ8 := hZ.keep hb8)
        | (go_at_call 39; (with_reducible refine (rsub_nm hX hZ8 hsub.out).mono ?_); rintro e w9 ⟨a11, n11, c11, rfl, hY, hb9⟩; have hM9 := hM8.keep hb9)
        | (go_at_call 54; (with_reducible refine (rmod_nm hY hM9 (by omega)).mono ?_); rintro e w10 ⟨a12, n12, c12, rfl, hV, hb10⟩))
      go_roundg s
      case measure => exact hi.out.2.1
      case rel =>
        have hb79 := hb8.trans ((hb9.trans (hb10.mono hb9.size)).mono hb8.size)
        have hb59 := hb5.trans ((hb6.trans ((hb7.trans (hb79.mono hb7.size)).mono hb6.size)).mono hb5.size)
        refine ⟨_, _, _, _, _, _, _, _, _, _, _, _, _, _, _, _, rfl, rfl, rfl, rfl, hS7.keep hb79, hL7.keep hb79, hU7.keep hb79, hV, ⟨?_, Nat.mod_lt _ HS.out, hi.out.2.2.2, Nat.mod_lt _ (by omega)⟩, (hM9.keep hb10), hbT.trans (hb59.mono hbT.size)⟩
        rw [← invL_pos _ _ _ _ _ HS.out]
        exact hi.out.1
    · obtain rfl : s = 0 := by omega
      obtain rfl : n' = 0 := hS.zero
      have hrt := hi.out.1
      rw [invL_zero] at hrt
      obtain ⟨cv, hcv⟩ : ∃ cv, cv = cmpI r 1 := ⟨_, rfl⟩
      have hc0 := @cmpI_iff0 r 1
      rw [← hcv] at hc0
      have HRT2 := mkHid hrt
      have HCV := mkHid hcv
      clear hcv hrt hi
      by_cases h1 : r = 1
      · have t3 : (cv != 0) = false := by rw [bne_eq_false_iff_eq]; exact hc0.2 h1
        have HR1 := mkHid h1
        clear h1 hc0
        go_wp2_with (first
          | (go_at_call 45; (with_reducible refine (rof1 k hk1 (by omega) _).mono ?_); rintro e w5 ⟨a6, n6, c6, rfl, hO, hb5⟩; have hR5 := hR.keep hb5)
          | (go_at_call 17; (with_reducible refine (rcmp_nm hR5 hO).mono ?_); rintro e w6 ⟨rfl, hb6⟩; rw [← HCV.out]))
        go_ret2
        have l1 := hbT.trans ((hb5.trans (hb6.mono hb5.size)).mono hbT.size)
        exact ⟨fun _ => ⟨b, o, d, rfl, by rw [← HRT2.out]; exact (hT.keep hb5).keep hb6, l1⟩, fun h => absurd (by rw [← HRT2.out]; exact HR1.out) h⟩
      · have t3 : (cv != 0) = true := by rw [bne_iff_ne]; exact fun h => h1 (hc0.1 h)
        have HR1 := mkHid h1
        clear h1 hc0
        go_wp2_with (first
          | (go_at_call 45; (with_reducible refine (rof1 k hk1 (by omega) _).mono ?_); rintro e w5 ⟨a6, n6, c6, rfl, hO, hb5⟩; have hR5 := hR.keep hb5)
          | (go_at_call 17; (with_reducible refine (rcmp_nm hR5 hO).mono ?_); rintro e w6 ⟨rfl, hb6⟩; rw [← HCV.out]))
        go_ret2
        have l1 := hbT.trans ((hb5.trans (hb6.mono hb5.size)).mono hbT.size)
        exact ⟨fun h => absurd (by rw [← HRT2.out] at h; exact h) HR1.out, fun _ => ⟨none, 0, rfl, l1⟩⟩

end

end Go.Proofs.Ytaeamlldocbeeaa

/- baileyref2: Exp, Strong. -/

namespace Go.Proofs.Ytaeamlldocbeeaa
open Go.RowKit Num

theorem rexp_sq (A E m : Nat) : A ^ E % m * (A ^ E % m) % m = A ^ (2 * E) % m := by
  rw [← Nat.mul_mod, pow_double]

theorem rexp_sq1 (A E m : Nat) : A ^ (2 * E) % m * (A % m) % m = A ^ (2 * E + 1) % m := by
  rw [← Nat.mul_mod, Nat.pow_succ]

section
variable {w : World} {a1 a2 a3 : Option Addr} {n1 c1 n2 c2 n3 c3 m k l u v x : Nat}

set_option maxHeartbeats 1000000 in
theorem rexp_nm (h : Rf w a1 n1 c1 m u) (h' : Rf w a2 n2 c2 k v) (h'' : Rf w a3 n3 c3 l x) (hx : 0 < x) (hl : l ≤ 400000) : Calls Try.prog 56 #[.slice a1 n1 c1, .slice a2 n2 c2, .slice a3 n3 c3] w (GivesF w l (u ^ v % x)) := by
  obtain ⟨N, hN⟩ : ∃ N, N = bitLen v := ⟨_, rfl⟩
  have hN63 : N ≤ 1000000 := by rw [hN]; exact Nat.le_trans ((bitLen_le v k).2 h'.lt.out) h'.hm
  have HN := mkHid hN
  have HBL := mkHid ((bitLen_le v N).1 (by rw [hN]; exact Nat.le_refl _))
  clear hN
  go_enter Try.func56, Try.ntmps56
  go_wp2_with (first
    | (go_at_call 45; (with_reducible refine (rof1 2 (by omega) (by omega) _).mono ?_); rintro e w1 ⟨a4, n4, c4, rfl, hO, hb1⟩; have hA1 := h.keep hb1; have hE1 := h'.keep hb1; have hM1 := h''.keep hb1)
    | (go_at_call 54; (with_reducible refine (rmod_nm hO hM1 hx).mono ?_); rintro e w2 ⟨a5, n5, c5, rfl, hX, hb2⟩; have hA2 := hA1.keep hb2; have hE2 := hE1.keep hb2; have hM2 := hM1.keep hb2; clear hO)
    | (go_at_call 54; (with_reducible refine (rmod_nm hA2 hM2 hx).mono ?_); rintro e w3 ⟨a6, n6, c6, rfl, hA, hb3⟩; have hX3 := hX.keep hb3; have hE3 := hE2.keep hb3; have hM3 := hM2.keep hb3)
    | (go_at_call 25; (with_reducible refine (rbits_nm hE3).mono ?_); rintro e w' ⟨rfl, rfl⟩; rw [← HN.out]))
  have hbT := hb1.trans ((hb2.trans (hb3.mono hb2.size)).mono hb1.size)
  clear hA1 hE1 hM1 hA2 hE2 hM2 hX hb1 hb2 hb3 h h' h''
  go_loopw [7, 8] (fun xv iv wr => ∃ (j : Nat) (z : Int) (a : Option Addr) (n c : Nat), j ≤ N ∧ z = (N : Int) - 1 - (j : Int) ∧ iv = .int .i64 z ∧ xv = .slice a n c ∧ Rf wr a n c l (u ^ (v / 2 ^ (N - j)) % x) ∧
    Rf wr a6 n6 c6 l (u % x) ∧ Rf wr a2 n2 c2 k v ∧ Rf wr a3 n3 c3 l x ∧ Below w.heap.size w wr) (fun _ iv _ => (intOf iv + 1).toNat)
  case atStart =>
    refine ⟨0, (N : Int) - 1, a5, n5, c5, Nat.zero_le _, by omega, rfl, rfl, ?_, hA, hE3, hM3, hbT⟩
    rw [Nat.sub_zero, Nat.div_eq_of_lt HBL.out, Nat.pow_zero]
    exact hX3
  case round =>
    clear hX3 hA hE3 hM3 hbT
    obtain ⟨j, z, a, n, c, hj, hz, rfl, rfl, hX, hA, hE, hM, hbT⟩ := hrel
    by_cases hlt : j < N
    · obtain ⟨i, hi⟩ : ∃ i, i = N - 1 - j := ⟨_, rfl⟩
      obtain rfl : z = (i : Int) := by omega
      have t1 : decide (0 ≤ (i : Int)) = true := decide_eq_true (by omega)
      obtain ⟨bt, hbt⟩ : ∃ bt, bt = v / 2 ^ i % 2 := ⟨_, rfl⟩
      have hbit : ∀ W', Rf W' a2 n2 c2 k v → Calls Try.prog 27 #[.slice a2 n2 c2, .int .i64 (i : Int)] W' (RetN .u64 W' bt) := fun W' hW => by
        have := rbit_nm hW (i : Int) (by omega)
        rw [bitAt_nat, ← hbt] at this
        exact this
      have hexp := exp_bit v i
      rw [← hbt, show i + 1 = N - j by omega] at hexp
      obtain ⟨E, hE0⟩ : ∃ E, E = v / 2 ^ (N - j) := ⟨_, rfl⟩
      rw [← hE0] at hexp hX
      have hnext : Hid (u ^ (v / 2 ^ (N - (j + 1))) = u ^ (2 * E + bt)) := by
        show _ = _
        rw [show N - (j + 1) = i by omega, hexp]
      have HBI := mkHid hbit
      have HZ := mkHid hz
      have HI := mkHid hi
      have e9 : wrap64 ((i : Int) - 1) = (i : Int) - 1 := by unfold wrap64; omega
      have hbt2 : bt = 0 ∨ bt = 1 := by omega
      clear hbit hexp hE0 hbt hz hi
      rcases hbt2 with rfl | rfl
      · go_wp2_with (first
          | (go_at_call 55; (with_reducible refine (rmulm_nm hX hX hM hx (by omega)).mono ?_); rintro e w4 ⟨a7, n7, c7, rfl, hY, hb4⟩; have hE4 := hE.keep hb4; have HB4 := mkHid (HBI.out _ hE4))
          | (go_at_call 27; (with_reducible refine HB4.out.mono ?_); rintro e w' ⟨rfl, rfl⟩))
        go_roundw
        case rel =>
          refine ⟨j + 1, (i : Int) - 1, a7, n7, c7, by omega, by have := HZ.out; omega, by rw [e9], rfl, ?_, hA.keep hb4, hE4, hM.keep hb4, hbT.trans (hb4.mono hbT.size)⟩
          rw [hnext.out, Nat.add_zero, ← rexp_sq]
          exact hY
        case measure => simp [intOf, e9]
      · go_wp2_with (first
          | (go_at_call 55; (with_reducible refine (rmulm_nm hX hX hM hx (by omega)).mono ?_); rintro e w4 ⟨a7, n7, c7, rfl, hY, hb4⟩; have hE4 := hE.keep hb4; have HB4 := mkHid (HBI.out _ hE4); have hA4 := hA.keep hb4; have hM4 := hM.keep hb4)
          | (go_at_call 27; (with_reducible refine HB4.out.mono ?_); rintro e w' ⟨rfl, rfl⟩)
          | (go_at_call 55; (with_reducible refine (rmulm_nm hY hA4 hM4 hx (by omega)).mono ?_); rintro e w5 ⟨a8, n8, c8, rfl, hY5, hb5⟩))
        go_roundw
        case rel =>
          refine ⟨j + 1, (i : Int) - 1, a8, n8, c8, by omega, by have := HZ.out; omega, by rw [e9], rfl, ?_, hA4.keep hb5, hE4.keep hb5, hM4.keep hb5, hbT.trans ((hb4.trans (hb5.mono hb4.size)).mono hbT.size)⟩
          rw [hnext.out, ← rexp_sq1, ← rexp_sq]
          exact hY5
        case measure => simp [intOf, e9]
    · obtain rfl : j = N := by omega
      have t1 : decide (0 ≤ z) = false := decide_eq_false (by omega)
      clear hz
      go_wp2
      go_ret
      rw [Nat.sub_self, Nat.pow_zero, Nat.div_one] at hX
      exact ⟨a, n, c, rfl, hX, hbT⟩

end

end Go.Proofs.Ytaeamlldocbeeaa
