/- baileyref2: Next. -/
import Derived.Test.YtaeamlldocbeeaaRmod4
import Derived.Test.YtaeamlldocbeeaaMod10
namespace Go.Proofs.Ytaeamlldocbeeaa
open Go.RowKit Num

theorem small_prob : ∀ p, p < 64 → p % 2 = 1 → 3 ≤ p → (noSmall p && (mayB [p] && fewL.all (strongB p))) = (mayB [p] && fewL.all (strongB p)) := by decide +kernel

theorem odd_dvd (q : Nat) (hq : q ∈ oddL) : q ∣ 16294579238595022365 := by
  have : ∀ q ∈ oddL, 16294579238595022365 % q = 0 := by decide
  exact Nat.dvd_of_mod_eq_zero (this q hq)

theorem noSmall_big (p : Nat) (hp : 64 ≤ p) (ho : p % 2 = 1) : noSmall p = !partedB p := by
  have hf : fewL = 2 :: oddL := rfl
  have hle : ∀ q ∈ oddL, q ≤ 37 := by decide
  unfold noSmall partedB
  rw [if_neg (by omega), hf, List.all_cons, decide_eq_false (show ¬ p % 2 = 0 by omega), Bool.false_and, Bool.not_false, Bool.true_and, List.not_any_eq_all_not]
  rw [Bool.eq_iff_iff, List.all_eq_true, List.all_eq_true]
  constructor
  · intro h q hq
    have := h q hq
    have h1 := hle q hq
    rw [decide_eq_true (show p ≠ q by omega), Bool.and_true] at this
    rw [Nat.mod_mod_of_dvd _ (odd_dvd q hq)]
    exact this
  · intro h q hq
    have := h q hq
    rw [Nat.mod_mod_of_dvd _ (odd_dvd q hq)] at this
    have h2 : decide (p % q = 0) = false := by simpa using this
    rw [h2]; rfl

/-- the reference's word on when the search ends is the program's -/
theorem rok_eq (e p : Nat) (hp : 3 ≤ p) (ho : p % 2 = 1) : okB e p = (rprobB p && decide (Nat.gcd (p - 1) e = 1)) := by
  have e1 : probB p = (mayB [p] && fewL.all (strongB p)) := by unfold probB; rw [if_neg (by omega)]
  have e2 : rprobB p = (noSmall p && (mayB [p] && fewL.all (strongB p))) := by unfold rprobB; rw [if_neg (show ¬ p = 2 by omega), if_neg (by omega)]
  unfold okB
  rw [e2]
  by_cases h : p < 64
  · have h1 : partedB p = false := by unfold partedB; rw [if_pos h]
    rw [small_prob p h ho hp, h1, e1, Bool.not_false, Bool.true_and, Bool.and_comm]
  · rw [noSmall_big p (by omega) ho, e1]
    cases partedB p with
    | true => rfl
    | false => rw [Bool.not_false, Bool.true_and, Bool.true_and, Bool.and_comm]

section
variable {w : World} {a1 a2 : Option Addr} {n1 c1 n2 c2 m k N e : Nat}

set_option maxHeartbeats 2000000 in
theorem rnext_any (h : Rf w a1 n1 c1 m N) (h' : Rf w a2 n2 c2 k e) (hN : N < 2 ^ 128) (he : e % 2 = 1) (he2 : e < 18446744073709551616) :
    Calls Try.prog 50 #[.slice a1 n1 c1, .slice a2 n2 c2] w fun x w' => ∃ p, IsNext N e p ∧ p < 2 ^ 133 ∧ GivesF w 200 p x w' := by
  obtain ⟨G, hG⟩ := good_any e he he2
  have h200 : (2 : Nat) ^ 133 ≤ 2 ^ 200 := Nat.pow_le_pow_right (by omega) (by omega)
  have he200 : e < 2 ^ 200 := Nat.lt_of_lt_of_le he2 (by decide)
  have hE := h'.tight he200 (by omega)
  have hNn := h.tight (k := 200) (Nat.lt_of_lt_of_le hN (Nat.pow_le_pow_right (by omega) (by omega))) (by omega)
  obtain ⟨p0, hp0⟩ : ∃ p0, p0 = if N ≤ 2 then 3 else N := ⟨_, rfl⟩
  have hst : startP N = p0 + (1 - p0 % 2) := by
    unfold startP
    by_cases h2 : N ≤ 2
    · rw [if_pos h2] at hp0
      by_cases h3 : N < 2
      · rw [if_pos h3, hp0]
      · rw [if_neg h3, hp0]; omega
    · rw [if_neg h2] at hp0
      rw [if_neg (by omega), hp0]
  have hp0200 : p0 < 2 ^ 200 := by
    rw [hp0]
    split
    · exact Nat.lt_of_lt_of_le (show 3 < 2 ^ 2 by omega) (Nat.pow_le_pow_right (by omega) (by omega))
    · exact hNn.lt.out
  obtain ⟨cv, hcv⟩ : ∃ cv, cv = cmpI N 2 := ⟨_, rfl⟩
  have hle := cmpI_le N 2
  rw [← hcv] at hle
  obtain ⟨dd, hdd⟩ : ∃ dd, decide (cv ≤ 0) = dd := ⟨_, rfl⟩
  have hd2 : (dd = true → N ≤ 2) ∧ (dd = false → ¬ N ≤ 2) := by
    rw [← hdd, hle, decide_eq_true_iff, decide_eq_false_iff_not]
    exact ⟨id, id⟩
  have HDD := mkHid hd2
  have HCV := mkHid hcv
  have HG := mkHid hG
  have HST := mkHid hst
  have HP0 := mkHid hp0
  have HN := mkHid hN
  have H200 := mkHid h200
  have HP2 := mkHid hp0200
  clear he hst hp0 h h' he2 hG hN h200 he200 hp0200 hcv hle hd2
  go_enter Try.func50, Try.ntmps50
  go_upto_if 13 with (first
    | (go_at_call 45; (with_reducible refine (rof2 2 (by omega) (by omega) _).mono ?_); rintro e w1 ⟨a3, n3, c3, rfl, hT, hb1⟩; have hN1 := hNn.keep hb1; have hE1 := hE.keep hb1)
    | (go_at_call 17; (with_reducible refine (rcmp_nm hN1 hT).mono ?_); rintro e w2 ⟨rfl, hb2⟩; rw [← HCV.out]; have hN2 := hN1.keep hb2; have hE2 := hE1.keep hb2; have hT2 := hT.keep hb2))
  have hbT := hb1.trans (hb2.mono hb1.size)
  clear hN1 hE1 hT hb1 hb2 hdd hE hNn HCV
  go_cut [6] from 14 to 14 (fun v wc => ∃ a n c, v = .slice a n c ∧ Rf wc a n c 200 p0 ∧ Below w2.heap.size w2 wc)
  case first =>
    cases dd with
    | true =>
      have e0 := HP0.out
      rw [if_pos (HDD.out.1 rfl)] at e0
      have E0 := mkHid e0
      clear e0 HDD HP0
      go_wp2_with (first
        | (go_at_call 45; (with_reducible refine (rof3 200 (by omega) (by omega) _).mono ?_); rintro e w3 ⟨a4, n4, c4, rfl, hO4, hb3⟩))
      go_meet
      case rel => exact ⟨a4, n4, c4, rfl, by rw [E0.out]; exact hO4, hb3⟩
    | false =>
      have e0 := HP0.out
      rw [if_neg (HDD.out.2 rfl)] at e0
      have E0 := mkHid e0
      clear e0 HDD HP0
      go_wp2
      go_meet
      case rel => exact ⟨a1, n1, c1, rfl, by rw [E0.out]; exact hN2, Below.refl _ _⟩
  case rest =>
    obtain ⟨a4, n4, c4, rfl, hP, hb3⟩ := hcut
    replace hE2 := hE2.keep hb3
    replace hT2 := hT2.keep hb3
    replace hbT := hbT.trans (hb3.mono hbT.size)
    clear hb3 hN2 HDD HP0
    have hod := rodd_nm hP
    obtain ⟨ob, hob⟩ : ∃ ob, ob = decide (p0 % 2 = 1) := ⟨_, rfl⟩
    rw [← hob] at hod
    have HOD := mkHid hod
    have HOB := mkHid hob
    clear hod hob
    go_upto_if 17 with (first
      | (go_at_call 86; (with_reducible refine HOD.out.mono ?_); rintro e w' ⟨rfl, rfl⟩))
    obtain ⟨wd, hwd⟩ : ∃ x, x = wc := ⟨_, rfl⟩
    subst hwd
    go_cut [6] from 18 to 20 (fun v wc => ∃ a n c, v = .slice a n c ∧ Rf wc a n c 200 (startP N) ∧ Below wd.heap.size wd wc)
    case first =>
      have hsl : startP N < 2 ^ 200 := by
        have h1 := startP_le N G HN.out HG.out.lo
        have h2 := HG.out.hi
        have h3 := H200.out
        omega
      have HSL := mkHid hsl
      clear hsl
      cases ob with
      | false =>
        have e0 : startP N = p0 + 1 := by
          have := of_decide_eq_false HOB.out.symm
          rw [HST.out]; omega
        have E0 := mkHid e0
        clear e0
        go_wp2_with (first
          | (go_at_call 45; (with_reducible refine (rof1 2 (by omega) (by omega) _).mono ?_); rintro e w3 ⟨a5, n5, c5, rfl, hO, hb3⟩; have hP3 := hP.keep hb3)
          | (go_at_call 18; (with_reducible refine (radd_nm hP3 hO (by omega)).mono ?_); rintro e w4 ⟨a6, n6, c6, rfl, hA, hb4⟩))
        go_meet
        case rel => exact ⟨a6, n6, c6, rfl, by rw [← E0.out] at hA; exact hA.tight HSL.out (by omega), hb3.trans (hb4.mono hb3.size)⟩
      | true =>
        have e0 : startP N = p0 := by
          have := of_decide_eq_true HOB.out.symm
          rw [HST.out]; omega
        have E0 := mkHid e0
        clear e0
        go_wp2
        go_meet
        case rel => exact ⟨a4, n4, c4, rfl, by rw [E0.out]; exact hP, Below.refl _ _⟩
    case rest =>
      obtain ⟨a5, n5, c5, rfl, hS, hb3⟩ := hcut
      replace hE2 := hE2.keep hb3
      replace hT2 := hT2.keep hb3
      replace hbT := hbT.trans (hb3.mono hbT.size)
      clear hb3 hP HOD HOB
      go_wp2
      go_loopg [6] (G + 1) (fun g pv wr => ∃ a n c p, pv = .slice a n c ∧ Rf wr a n c 200 p ∧ Hid (p % 2 = 1 ∧ startP N ≤ p ∧ p ≤ G ∧ G - p < g ∧ ∀ q, q % 2 = 1 → startP N ≤ q → q < p → okB e q = false) ∧ Rf wr a2 n2 c2 200 e ∧ Rf wr a3 n3 c3 2 2 ∧ Below w.heap.size w wr)
      case atStart =>
        exact ⟨_, _, _, startP N, rfl, hS, ⟨startP_odd N, Nat.le_refl _, startP_le N G HN.out HG.out.lo, by have := startP_le N G HN.out HG.out.lo; omega, fun q _ h1 h2 => by omega⟩, hE2, hT2, hbT⟩
      case round =>
        clear hS hE2 hT2 hbT
        obtain ⟨a, n, c, p, rfl, hp, hi, hE, hT, hbT⟩ := hrel
        have hp3 : 3 ≤ p := by
          have h1 := hi.out.2.1
          have : 3 ≤ startP N := by unfold startP; split <;> omega
          omega
        have hgl := mkHid (show p < 2 ^ 133 from Nat.lt_of_le_of_lt hi.out.2.2.1 HG.out.hi)
        have hroke := rok_eq e p hp3 hi.out.1
        obtain ⟨rp, hrp⟩ : ∃ rp, rp = rprobB p := ⟨_, rfl⟩
        obtain ⟨gc, hgc⟩ : ∃ gc, gc = Nat.gcd (p - 1) e := ⟨_, rfl⟩
        have hpr := rprob_any hp (by omega) (by omega)
        rw [← hrp] at hpr
        have HPR := mkHid hpr
        have HGC := mkHid hgc
        obtain ⟨cv2, hcv2⟩ : ∃ cv2, cv2 = cmpI gc 1 := ⟨_, rfl⟩
        have hci := @cmpI_iff0 gc 1
        rw [← hcv2] at hci
        have HC2 := mkHid hcv2
        by_cases hok : okB e p = true
        · have hsp : rp = true ∧ gc = 1 := by
            rw [hroke, Bool.and_eq_true, decide_eq_true_iff] at hok
            exact ⟨by rw [hrp]; exact hok.1, by rw [hgc]; exact hok.2⟩
          have HOK := mkHid hok
          obtain ⟨rfl, hg1⟩ := hsp
          have t2 : (cv2 == 0) = true := by rw [beq_iff_eq]; exact hci.2 hg1
          clear hok hroke hrp hgc hpr hcv2 hci hg1
          go_wp2_with (first
            | (go_at_call 88; (with_reducible refine HPR.out.mono ?_); rintro e w4 ⟨rfl, hb4⟩; have hp4 := hp.keep hb4; have hE4 := hE.keep hb4)
            | (go_at_call 45; (with_reducible refine (rof1 2 (by omega) (by omega) _).mono ?_); rintro e w5 ⟨a6, n6, c6, rfl, hO, hb5⟩; have hp5 := hp4.keep hb5; have hE5 := hE4.keep hb5; clear hp4)
            | (go_at_call 39; (with_reducible refine (rsub_nm hp5 hO (by omega)).mono ?_); rintro e w6 ⟨a7, n7, c7, rfl, hL, hb6⟩; have hp6 := hp5.keep hb6; have hE6 := hE5.keep hb6)
            | (go_at_call 43; (with_reducible refine (rgcd_nm hL hE6).mono ?_); rintro e w7 ⟨a8, n8, c8, rfl, hGc, hb7⟩; rw [← HGC.out] at hGc; have hp7 := hp6.keep hb7; clear hO)
            | (go_at_call 45; (with_reducible refine (rof1 2 (by omega) (by omega) _).mono ?_); rintro e w8 ⟨a9, n9, c9, rfl, hO8, hb8⟩; have hG8 := hGc.keep hb8; have hp8 := hp7.keep hb8)
            | (go_at_call 17; (with_reducible refine (rcmp_nm hG8 hO8).mono ?_); rintro e w9 ⟨rfl, hb9⟩; rw [← HC2.out]; have hp9 := hp8.keep hb9))
          go_ret
          have l1 := hb7.trans ((hb8.trans (hb9.mono hb8.size)).mono hb7.size)
          have l2 := hb4.trans ((hb5.trans ((hb6.trans (l1.mono hb6.size)).mono hb5.size)).mono hb4.size)
          exact ⟨p, ⟨hi.out.1, hi.out.2.1, HOK.out, hi.out.2.2.2.2⟩, hgl.out, a, n, c, rfl, hp9, hbT.trans (l2.mono hbT.size)⟩
        · have hnx : (p + 2 ≤ G) := by
            have h1 := HG.out.odd
            have h2 := hi.out.1
            have h3 := hi.out.2.2.1
            have h4 : p ≠ G := fun h => hok (by rw [h]; exact HG.out.ok)
            omega
          have HNX : Hid (((p + 2) % 2 = 1 ∧ startP N ≤ p + 2 ∧ p + 2 ≤ G ∧ G - (p + 2) < G - p ∧ ∀ q, q % 2 = 1 → startP N ≤ q → q < p + 2 → okB e q = false) ∧ p + 2 < 2 ^ 200) := by
            have h2 := hi.out
            have h5 := HG.out.hi
            have h6 := H200.out
            refine ⟨⟨by omega, by omega, hnx, by omega, fun q hq1 hq2 hq3 => ?_⟩, by omega⟩
            by_cases hqp : q < p
            · exact h2.2.2.2.2 q hq1 hq2 hqp
            · obtain rfl : q = p := by omega
              simpa using hok
          have hno : rp = false ∨ (rp = true ∧ gc ≠ 1) := by
            cases rp with
            | false => exact .inl rfl
            | true =>
              refine .inr ⟨rfl, fun h => hok ?_⟩
              rw [hroke, ← hrp, decide_eq_true (by rw [← hgc]; exact h)]
              rfl
          clear hok hroke hrp hgc hpr hcv2 hnx
          rcases hno with rfl | ⟨rfl, hg1⟩
          · clear hci
            go_wp2_with (first
              | (go_at_call 88; (with_reducible refine HPR.out.mono ?_); rintro e w4 ⟨rfl, hb4⟩; have hp4 := hp.keep hb4; have hE4 := hE.keep hb4; have hT4 := hT.keep hb4)
              | (go_at_call 18; (with_reducible refine (radd_nm hp4 hT4 (by omega)).mono ?_); rintro e w5 ⟨a6, n6, c6, rfl, hA, hb5⟩))
            go_roundg (G - p)
            case measure => exact hi.out.2.2.2.1
            case rel => exact ⟨a6, n6, c6, p + 2, rfl, hA.tight HNX.out.2 (by omega), HNX.out.1, hE4.keep hb5, hT4.keep hb5, hbT.trans ((hb4.trans (hb5.mono hb4.size)).mono hbT.size)⟩
          · have t2 : (cv2 == 0) = false := by rw [beq_eq_false_iff_ne]; exact fun h => hg1 (hci.1 h)
            clear hci hg1
            go_wp2_with (first
              | (go_at_call 88; (with_reducible refine HPR.out.mono ?_); rintro e w4 ⟨rfl, hb4⟩; have hp4 := hp.keep hb4; have hE4 := hE.keep hb4; have hT4 := hT.keep hb4)
              | (go_at_call 45; (with_reducible refine (rof1 2 (by omega) (by omega) _).mono ?_); rintro e w5 ⟨a6, n6, c6, rfl, hO, hb5⟩; have hp5 := hp4.keep hb5; have hE5 := hE4.keep hb5; have hT5 := hT4.keep hb5; clear hp4)
              | (go_at_call 39; (with_reducible refine (rsub_nm hp5 hO (by omega)).mono ?_); rintro e w6 ⟨a7, n7, c7, rfl, hL, hb6⟩; have hp6 := hp5.keep hb6; have hE6 := hE5.keep hb6; have hT6 := hT5.keep hb6)
              | (go_at_call 43; (with_reducible refine (rgcd_nm hL hE6).mono ?_); rintro e w7 ⟨a8, n8, c8, rfl, hGc, hb7⟩; rw [← HGC.out] at hGc; have hp7 := hp6.keep hb7; have hT7 := hT6.keep hb7; have hE7 := hE6.keep hb7; clear hO)
              | (go_at_call 45; (with_reducible refine (rof1 2 (by omega) (by omega) _).mono ?_); rintro e w8 ⟨a9, n9, c9, rfl, hO8, hb8⟩; have hG8 := hGc.keep hb8; have hp8 := hp7.keep hb8; have hT8 := hT7.keep hb8; have hE8 := hE7.keep hb8)
              | (go_at_call 17; (with_reducible refine (rcmp_nm hG8 hO8).mono ?_); rintro e w9 ⟨rfl, hb9⟩; rw [← HC2.out]; have hp9 := hp8.keep hb9; have hT9 := hT8.keep hb9; have hE9 := hE8.keep hb9)
              | (go_at_call 18; (with_reducible refine (radd_nm hp9 hT9 (by omega)).mono ?_); rintro e w10 ⟨a10, n10, c10, rfl, hA, hb10⟩))
            go_roundg (G - p)
            case measure => exact hi.out.2.2.2.1
            case rel =>
              have l1 := hb7.trans ((hb8.trans ((hb9.trans (hb10.mono hb9.size)).mono hb8.size)).mono hb7.size)
              have l2 := hb4.trans ((hb5.trans ((hb6.trans (l1.mono hb6.size)).mono hb5.size)).mono hb4.size)
              exact ⟨a10, n10, c10, p + 2, rfl, hA.tight HNX.out.2 (by omega), HNX.out.1, hE9.keep hb10, hT9.keep hb10, hbT.trans (l2.mono hbT.size)⟩

theorem IsNext.unique {p q : Nat} (h : IsNext N e p) (h' : IsNext N e q) : p = q := by
  rcases Nat.lt_trichotomy p q with hlt | heq | hlt
  · have := h'.no p h.odd h.ge hlt
    rw [h.ok] at this
    cases this
  · exact heq
  · have := h.no q h'.odd h'.ge hlt
    rw [h'.ok] at this
    cases this

end

end Go.Proofs.Ytaeamlldocbeeaa
