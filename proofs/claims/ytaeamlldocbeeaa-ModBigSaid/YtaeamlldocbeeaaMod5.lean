/- modarith: Strong. -/
import Derived.Test.YtaeamlldocbeeaaMod4
namespace Go.Proofs.Ytaeamlldocbeeaa
open Go.RowKit Num

theorem mont_reduce (x m R : Nat) : x * x * R % m = (x * x % m) * R % m := by
  rw [Nat.mul_mod (x * x) R, Nat.mul_mod (x * x % m) R, Nat.mod_mod]

theorem mod_mul_l (a b m : Nat) : a * b % m = a % m * b % m := by
  rw [Nat.mul_mod a b, Nat.mul_mod (a % m) b, Nat.mod_mod]

/-- what the rounds of the test still say, i of them being done -/
def sAns (u L j i x : Nat) : Bool := (decide (i = 0) && decide (x = 1)) || sLoop u L (j - i) x

theorem sAns_end (u L j x : Nat) (h : 1 ≤ j) : sAns u L j j x = false := by
  unfold sAns
  rw [Nat.sub_self, decide_eq_false (by omega)]; rfl

theorem sAns_hit (u L j i x : Nat) (h : i < j) (hx : x = L ∨ (i = 0 ∧ x = 1)) : sAns u L j i x = true := by
  unfold sAns
  obtain ⟨d, hd⟩ : ∃ d, j - i = d + 1 := ⟨j - i - 1, by omega⟩
  rw [hd, sLoop]
  rcases hx with rfl | ⟨rfl, rfl⟩ <;> simp

theorem sAns_next (u L j i x : Nat) (h : i < j) (hx : x ≠ L) (h1 : ¬ (i = 0 ∧ x = 1)) : sAns u L j i x = sAns u L j (i + 1) (x * x % u) := by
  unfold sAns
  obtain ⟨d, hd⟩ : ∃ d, j - i = d + 1 := ⟨j - i - 1, by omega⟩
  rw [hd, sLoop, decide_eq_false hx, show j - (i + 1) = d by omega, decide_eq_false (show ¬ i + 1 = 0 by omega)]
  have : (decide (i = 0) && decide (x = 1)) = false := by
    rw [← Bool.not_eq_true, Bool.and_eq_true, decide_eq_true_iff, decide_eq_true_iff]; exact h1
  rw [this]
  simp

theorem bl1 {v : Nat} : ((bitLen v : Int) == 1) = decide (v = 1) := by
  rw [Bool.eq_iff_iff, beq_iff_eq, decide_eq_true_iff, ← bl_one]
  omega

section
variable {w : World} {a1 a2 a3 : Option Addr} {n1 c1 n2 c2 n3 c3 m k l u v x : Nat}

theorem shr_nm' (h : Nm w a1 n1 c1 m v) (j : Nat) (hj : j ≤ 1000000) : Calls Try.prog 22 #[.slice a1 n1 c1, .int .i64 (j : Int)] w (GivesC w m (v / 2 ^ j)) := by
  obtain ⟨xs, h1, h2, h3⟩ := h.ex
  have := h.hn
  refine (shr_any h1 h2 (by omega) (j : Int) (by omega)).mono fun _ _ hg => ?_
  rw [if_pos (by omega), h3, Int.toNat_natCast] at hg
  exact hg.c (h.lt.le (Nat.div_le_self _ _)) h.hm

theorem strong_no (h : Nm w a1 n1 c1 m u) (hu : u % 2 = 0 ∨ u < 2) : Calls Try.prog 47 #[.slice a1 n1 c1, .slice a2 n2 c2] w (GivesBool w (strongB u v)) := by
  have hR : strongB u v = decide (u = 2) := by unfold strongB; rw [if_pos hu]
  have hc := mkHid (cand_no h hu)
  rw [hR]
  clear hR
  generalize decide (u = 2) = R at *
  go_enter Try.func47, Try.ntmps47
  go_wp2_with (go_at_call 80; (with_reducible refine hc.out.mono ?_); rintro e w1 ⟨rfl, hb1⟩)
  go_ret
  exact ⟨rfl, hb1⟩

theorem strong_big (h : Nm w a1 n1 c1 m u) (hu : ¬ (u % 2 = 0 ∨ u < 2)) (hm : mayB [u] = false) : Calls Try.prog 47 #[.slice a1 n1 c1, .slice a2 n2 c2] w (GivesBool w (strongB u v)) := by
  have hR : strongB u v = false := by unfold strongB; rw [if_neg hu, if_neg (by rw [hm]; simp)]
  have hc := cand_yes h hu
  rw [hm] at hc
  have HC := mkHid hc
  rw [hR]
  clear hR hc hm
  go_enter Try.func47, Try.ntmps47
  go_wp2_with (go_at_call 80; (with_reducible refine HC.out.mono ?_); rintro e w1 ⟨rfl, hb1⟩)
  go_ret
  exact ⟨rfl, hb1⟩

theorem strong_nil (h : Nm w a1 n1 c1 m u) (h' : Nm w a2 n2 c2 k v) (hu : ¬ (u % 2 = 0 ∨ u < 2)) (hm : mayB [u] = true) (h0 : v % u = 0) : Calls Try.prog 47 #[.slice a1 n1 c1, .slice a2 n2 c2] w (GivesBool w (strongB u v)) := by
  have hR : strongB u v = true := by unfold strongB; rw [if_neg hu, if_pos hm, if_pos h0]
  have hc := cand_yes h hu
  rw [hm] at hc
  have HC := mkHid hc
  have hp : 0 < u := by omega
  have H0 := mkHid h0
  rw [hR]
  clear hR hc hm hu h0
  go_enter Try.func47, Try.ntmps47
  go_wp2_with (first
    | (go_at_call 80; (with_reducible refine HC.out.mono ?_); rintro e w1 ⟨rfl, hb1⟩; have h1 := h.keep hb1; have h2 := h'.keep hb1)
    | (go_at_call 78; (with_reducible refine (rest_any h2 h1 hp).mono ?_); rintro e w2 ⟨a4, n4, c4, rfl, hr, hb2⟩; rw [H0.out] at hr; obtain rfl : n4 = 0 := hr.zero))
  go_ret
  exact ⟨rfl, hb1.trans (hb2.mono hb1.size)⟩

set_option maxRecDepth 20000 in
set_option maxHeartbeats 2000000 in
theorem strong_yes (h : Nm w a1 n1 c1 m u) (h' : Nm w a2 n2 c2 k v) (hu : ¬ (u % 2 = 0 ∨ u < 2)) (hm : mayB [u] = true) (h0 : ¬ v % u = 0) (hm4 : m ≤ 400000) : Calls Try.prog 47 #[.slice a1 n1 c1, .slice a2 n2 c2] w (GivesBool w (strongB u v)) := by
  have hR : strongB u v = (decide ((v % u) ^ ((u - 1) / 2 ^ tz (u - 1)) % u = 1) || sLoop u (u - 1) (tz (u - 1)) ((v % u) ^ ((u - 1) / 2 ^ tz (u - 1)) % u)) := by
    unfold strongB; rw [if_neg hu, if_pos hm, if_neg h0]
  generalize strongB u v = RR at hR ⊢
  have hc := cand_yes h hu
  rw [hm] at hc
  have HC := mkHid hc
  have hp : 2 < u := by omega
  have hodd := mkHid (show u % 2 = 1 by omega)
  obtain ⟨A, hA⟩ : ∃ A, A = v % u := ⟨_, rfl⟩
  obtain ⟨L, hL⟩ : ∃ L, L = u - 1 := ⟨_, rfl⟩
  obtain ⟨s, hs⟩ : ∃ s, s = tz L := ⟨_, rfl⟩
  rw [← hA, ← hL, ← hs] at hR
  have hL0 : 0 < L := by omega
  obtain ⟨z1, z2⟩ := tz_spec L hL0
  rw [← hs] at z1 z2
  have hsm : s < m := by rw [hs]; exact tz_le L m hL0 (by have := h.lt.out; omega)
  have hs1 : 1 ≤ s := by rw [hs]; exact tz_even L hL0 (by omega)
  have hAu : A < u := by rw [hA]; exact Nat.mod_lt _ (by omega)
  have hA0 : 0 < A := by omega
  obtain ⟨D, hD⟩ : ∃ D, D = L / 2 ^ s := ⟨_, rfl⟩
  rw [← hD] at hR
  obtain ⟨x0, hx0⟩ : ∃ x0, x0 = A ^ D % u := ⟨_, rfl⟩
  rw [← hx0] at hR
  have hx0u : x0 < u := by rw [hx0]; exact Nat.mod_lt _ (by omega)
  have HR := mkHid hR
  have HA := mkHid hA
  have HL := mkHid hL
  have HD := mkHid hD
  have HX := mkHid hx0
  have Z1 := mkHid z1
  have Z2 := mkHid z2
  have hmm := h.hm
  clear hc hm hu h0 hA hL hs hD hx0 z1 z2 hR
  go_enter Try.func47, Try.ntmps47
  go_upto_region 8 with (first
    | (go_at_call 80; (with_reducible refine HC.out.mono ?_); rintro e w1 ⟨rfl, hb1⟩; have h1 := h.keep hb1; have h2 := h'.keep hb1)
    | (go_at_call 78; (with_reducible refine (rest_any h2 h1 (by omega)).mono ?_); rintro e w2 ⟨a4, n4, c4, rfl, hr, hb2⟩; rw [← HA.out] at hr; have hn4 := hr.pos hA0; have t1 : ((n4 : Int) == 0) = false := beq_f (n := 0) (by omega); have h3 := h1.keep hb2)
    | (go_at_call 62; (with_reducible refine (of_nm1 m (by omega) (by omega) _).mono ?_); rintro e w3 ⟨a5, n5, c5, rfl, hO, hb3⟩; have h4 := h3.keep hb3; have hr4 := hr.keep hb3)
    | (go_at_call 38; (with_reducible refine (sub_nm h4 hO.nm).mono ?_); rintro e w4 ⟨a6, n6, c6, rfl, hL', hb4⟩; rw [← HL.out] at hL'; have h5 := h4.keep hb4; have hr5 := hr4.keep hb4))
  have hbT := hb1.trans ((hb2.trans ((hb3.trans (hb4.mono hb3.size)).mono hb2.size)).mono hb1.size)
  clear h1 h2 h3 h4 hr hr4 hO hb1 hb2 hb3 hb4 HC
  go_wp2
  go_loop [9] (fun sv => ∃ j : Nat, j ≤ s ∧ sv = .int .i64 j) (fun sv => s - (intOf sv).toNat)
  case atStart => exact ⟨0, Nat.zero_le _, rfl⟩
  case round =>
    obtain ⟨j, hj, rfl⟩ := hrel
    obtain ⟨bt, hbt⟩ : ∃ bt, bt = bitAt L (j : Int) := ⟨_, rfl⟩
    have hbit := bit_nm hL'.nm (j : Int) (by omega)
    rw [← hbt] at hbit
    have HB := mkHid hbit
    rw [bitAt_nat] at hbt
    by_cases hlt : j < s
    · have t2 : ((bt : Int) == 0) = true := beq_t (n := 0) (by rw [hbt]; exact low_bits L s j Z1.out hlt)
      clear hbt hbit
      go_wp2_with (go_at_call 29; (with_reducible refine HB.out.mono ?_); rintro e w' ⟨rfl, rfl⟩)
      go_round
      case rel => exact ⟨j + 1, by omega, by go_num⟩
      case measure => simp [intOf]; omega
    · obtain rfl : j = s := by omega
      have t2 : ((bt : Int) == 0) = false := beq_f (n := 0) (by rw [hbt, Z2.out]; omega)
      clear hbt hbit
      have hgt : 1 < u := by omega
      go_wp2_with (first
        | (go_at_call 29; (with_reducible refine HB.out.mono ?_); rintro e w' ⟨rfl, rfl⟩)
        | (go_at_call 81; (with_reducible refine (new_any h5 hm4 hodd.out hgt).mono ?_); rintro e w5 ⟨p, n, rfl, hM, hb5⟩; have hr6 := hr5.keep hb5; have hL6 := hL'.keep hb5)
        | (go_at_call 83; (with_reducible refine (mto_any hM hr6.sl hAu).mono ?_); rintro e w6 ⟨a7, c7, rfl, hV, hb6⟩; have hM6 := hM.keep hb6; have hL7 := hL6.keep hb6)
        | (go_at_call 22; (with_reducible refine (shr_nm' hL7.nm j (by omega)).mono ?_); rintro e w7 ⟨a8, n8, c8, rfl, hE, hb7⟩; have hM7 := hM6.keep hb7; have hL8 := hL7.keep hb7; have hV7 := hV.keep hb7)
        | (go_at_call 82; (with_reducible refine (mexp_any hM7 hV7 hE.nm).mono ?_); rintro e w8 ⟨a9, c9, rfl, hX, hb8⟩; have hM8 := hM7.keep hb8; have hL9 := hL8.keep hb8))
      have hbT8 := hbT.trans ((hb5.trans ((hb6.trans ((hb7.trans (hb8.mono hb7.size)).mono hb6.size)).mono hb5.size)).mono hbT.size)
      have hXx : Vc w8 a9 n c9 (x0 * 18446744073709551616 ^ n % u) := by
        rw [HX.out, HD.out, ← mod_mul_l]; exact hX
      have H0 : Hid (RR = sAns u L j 0 x0) := by
        show _ = _
        rw [HR.out, sAns, Nat.sub_zero]
        simp
      have hcop := mkHid hM8.cop
      have hltm := mkHid h5.lt
      have hu1 : 0 < u := by omega
      clear hX HX HD HR hV hV7 hE hM hM6 hM7 hr5 hr6 hL6 hL7 hL8 hL' hb5 hb6 hb7 hb8 hbT h5 h h' t1 t2 HB Z1 Z2 hn4 HA HL
      go_loopw [11, 51] (fun vv iv wr => ∃ (i x : Nat) (a : Option Addr) (c : Nat), i ≤ j ∧ x < u ∧ iv = .int .i64 i ∧ vv = .slice a n c ∧ Vc wr a n c (x * 18446744073709551616 ^ n % u) ∧ Hid (RR = sAns u L j i x) ∧
        Mo wr p n u ∧ Cn wr a6 n6 c6 m L ∧ Below w.heap.size w wr) (fun _ iv _ => j - (intOf iv).toNat)
      case atStart => exact ⟨0, x0, a9, c9, Nat.zero_le _, hx0u, rfl, rfl, hXx, H0, hM8, hL9, hbT8⟩
      case round =>
        clear hXx H0 hM8 hL9 hbT8
        obtain ⟨i, x, a, c, hi, hxu, rfl, rfl, hV, hA, hM, hL, hbT⟩ := hrel
        by_cases hlt : i < j
        · have hfr := mfrom_any hM hV rfl hltm.out hmm
          rw [Nat.mod_eq_of_lt hxu] at hfr
          have HF := mkHid hfr
          obtain ⟨cv, hcv⟩ : ∃ cv, cv = cmpI x L := ⟨_, rfl⟩
          have hc0 := @cmpI_iff0 x L
          rw [← hcv] at hc0
          have HCV := mkHid hcv
          clear hfr hcv
          by_cases hxL : x = L
          · have t2 : (cv == 0) = true := by rw [beq_iff_eq]; exact hc0.2 hxL
            have HS := mkHid (sAns_hit u L j i x hlt (.inl hxL))
            clear hxL hc0
            go_wp2_with (first
              | (go_at_call 84; (with_reducible refine HF.out.mono ?_); rintro e w9 ⟨a10, n10, c10, rfl, hT, hb9⟩; have hL10 := hL.keep hb9)
              | (go_at_call 36; (with_reducible refine (cmp_nm hT.nm hL10.nm).mono ?_); rintro e w10 ⟨rfl, hb10⟩; rw [← HCV.out]))
            go_ret
            refine ⟨?_, hbT.trans ((hb9.trans (hb10.mono hb9.size)).mono hbT.size)⟩
            rw [hA.out, HS.out]; rfl
          · have t2 : (cv == 0) = false := by rw [beq_eq_false_iff_ne]; exact fun h => hxL (hc0.1 h)
            have HXL := mkHid hxL
            clear hxL hc0
            by_cases h01 : i = 0 ∧ x = 1
            · obtain ⟨rfl, rfl⟩ := h01
              have HS := mkHid (sAns_hit u L j 0 1 hlt (.inr ⟨rfl, rfl⟩))
              go_wp2_with (first
                | (go_at_call 84; (with_reducible refine HF.out.mono ?_); rintro e w9 ⟨a10, n10, c10, rfl, hT, hb9⟩; have hL10 := hL.keep hb9)
                | (go_at_call 36; (with_reducible refine (cmp_nm hT.nm hL10.nm).mono ?_); rintro e w10 ⟨rfl, hb10⟩; rw [← HCV.out]; have hT10 := hT.keep hb10)
                | (go_at_call 28; (with_reducible refine (bits_nm hT10.nm).mono ?_); rintro e w' ⟨rfl, rfl⟩; rw [show bitLen 1 = 1 from rfl]))
              go_ret
              refine ⟨?_, hbT.trans ((hb9.trans (hb10.mono hb9.size)).mono hbT.size)⟩
              rw [hA.out, HS.out]; rfl
            · have HS := mkHid (sAns_next u L j i x hlt HXL.out h01)
              by_cases hi0 : i = 0
              · subst hi0
                obtain ⟨B, hB⟩ : ∃ B, B = bitLen x := ⟨_, rfl⟩
                have hB1 : B ≠ 1 := by rw [hB]; intro h; exact h01 ⟨rfl, bl_one.1 h⟩
                have t3 : ((B : Int) == 1) = false := beq_f (n := 1) hB1
                have HB := mkHid hB
                clear h01 hB hB1
                go_wp2_with (first
                  | (go_at_call 84; (with_reducible refine HF.out.mono ?_); rintro e w9 ⟨a10, n10, c10, rfl, hT, hb9⟩; have hL10 := hL.keep hb9)
                  | (go_at_call 36; (with_reducible refine (cmp_nm hT.nm hL10.nm).mono ?_); rintro e w10 ⟨rfl, hb10⟩; rw [← HCV.out]; have hT10 := hT.keep hb10; have hL11 := hL10.keep hb10; have hM11 := (hM.keep hb9).keep hb10; have hV11 := (hV.keep hb9).keep hb10)
                  | (go_at_call 28; (with_reducible refine (bits_nm hT10.nm).mono ?_); rintro e w' ⟨rfl, rfl⟩; rw [← HB.out])
                  | (go_at_call 85; (with_reducible refine (mont_any hM11 hV11 hV11 (Nat.mod_lt _ hu1)).mono ?_); rintro e w11 ⟨r, hr1, hr2, a12, c12, rfl, hR, hb11⟩))
                go_roundw
                case rel =>
                  have e1 := mont_mul hcop.out hr1 hr2
                  rw [mont_reduce] at e1
                  rw [e1] at hR
                  exact ⟨1, x * x % u, a12, c12, by omega, Nat.mod_lt _ hu1, rfl, rfl, hR, by rw [← HS.out]; exact hA, hM11.keep hb11, hL11.keep hb11, hbT.trans ((hb9.trans ((hb10.trans (hb11.mono hb10.size)).mono hb9.size)).mono hbT.size)⟩
                case measure => simp [intOf]; omega
              · have t3 : ((i : Int) == 0) = false := beq_f (n := 0) hi0
                clear h01 hi0
                go_wp2_with (first
                  | (go_at_call 84; (with_reducible refine HF.out.mono ?_); rintro e w9 ⟨a10, n10, c10, rfl, hT, hb9⟩; have hL10 := hL.keep hb9)
                  | (go_at_call 36; (with_reducible refine (cmp_nm hT.nm hL10.nm).mono ?_); rintro e w10 ⟨rfl, hb10⟩; rw [← HCV.out]; have hL11 := hL10.keep hb10; have hM11 := (hM.keep hb9).keep hb10; have hV11 := (hV.keep hb9).keep hb10)
                  | (go_at_call 85; (with_reducible refine (mont_any hM11 hV11 hV11 (Nat.mod_lt _ hu1)).mono ?_); rintro e w11 ⟨r, hr1, hr2, a12, c12, rfl, hR, hb11⟩))
                go_roundw
                case rel =>
                  have e1 := mont_mul hcop.out hr1 hr2
                  rw [mont_reduce] at e1
                  rw [e1] at hR
                  exact ⟨i + 1, x * x % u, a12, c12, by omega, Nat.mod_lt _ hu1, by go_num, rfl, hR, by rw [← HS.out]; exact hA, hM11.keep hb11, hL11.keep hb11, hbT.trans ((hb9.trans ((hb10.trans (hb11.mono hb10.size)).mono hb9.size)).mono hbT.size)⟩
                case measure => simp [intOf]; omega
        · obtain rfl : i = j := by omega
          have HS := mkHid (sAns_end u L i x hs1)
          go_wp2
          go_ret
          refine ⟨?_, hbT⟩
          rw [hA.out, HS.out]; rfl

theorem strong_any (h : Nm w a1 n1 c1 m u) (h' : Nm w a2 n2 c2 k v) (hm4 : m ≤ 400000) : Calls Try.prog 47 #[.slice a1 n1 c1, .slice a2 n2 c2] w (GivesBool w (strongB u v)) := by
  by_cases hu : u % 2 = 0 ∨ u < 2
  · exact strong_no h hu
  · by_cases hm : mayB [u] = true
    · by_cases h0 : v % u = 0
      · exact strong_nil h h' hu hm h0
      · exact strong_yes h h' hu hm h0 hm4
    · exact strong_big h hu (by simpa using hm)

end

end Go.Proofs.Ytaeamlldocbeeaa
