/- baileyref2: Strong. -/
import Derived.Test.YtaeamlldocbeeaaRmodA
namespace Go.Proofs.Ytaeamlldocbeeaa
open Go.RowKit Num

theorem cmpI_le (u v : Nat) : decide (cmpI u v ≤ 0) = decide (u ≤ v) := by
  unfold cmpI
  by_cases h : u < v
  · rw [if_pos h, decide_eq_true (show u ≤ v by omega)]; rfl
  · rw [if_neg h]
    by_cases h2 : u = v
    · rw [if_pos h2, decide_eq_true (show u ≤ v by omega)]; rfl
    · rw [if_neg h2, decide_eq_false (show ¬ u ≤ v by omega)]; rfl

section
variable {w : World} {a1 a2 a3 : Option Addr} {n1 c1 n2 c2 n3 c3 m k l u v x : Nat}

theorem rstrong_no (h : Rf w a1 n1 c1 m u) (hu : u % 2 = 0 ∨ u < 2) : Calls Try.prog 48 #[.slice a1 n1 c1, .slice a2 n2 c2] w (GivesBool w (strongB u v)) := by
  have hR : strongB u v = decide (u = 2) := by unfold strongB; rw [if_pos hu]
  rw [hR]
  have hc := mkHid (cmpI_eq0 u 2)
  have hle := cmpI_le u 2
  generalize decide (u = 2) = R at hc ⊢
  obtain ⟨cv, hcv⟩ : ∃ cv, cv = cmpI u 2 := ⟨_, rfl⟩
  rw [← hcv] at hle hc
  have HCV := mkHid hcv
  obtain ⟨ob, hob⟩ : ∃ ob, ob = decide (u % 2 = 1) := ⟨_, rfl⟩
  have HOB := mkHid hob
  have hcase : ob = false ∨ (ob = true ∧ decide (cv ≤ 0) = true) := by
    by_cases ho : u % 2 = 1
    · right
      refine ⟨by rw [hob]; exact decide_eq_true ho, ?_⟩
      rw [hle]
      exact decide_eq_true (by omega)
    · left
      rw [hob]; exact decide_eq_false ho
  clear hle hcv hob hu hR
  rcases hcase with rfl | ⟨rfl, t1⟩
  · go_enter Try.func48, Try.ntmps48
    go_wp2_with (first
      | (go_at_call 45; (with_reducible refine (rof1 2 (by omega) (by omega) _).mono ?_); rintro e w1 ⟨a4, n4, c4, rfl, hO, hb1⟩; have h1 := h.keep hb1)
      | (go_at_call 45; (with_reducible refine (rof2 2 (by omega) (by omega) _).mono ?_); rintro e w2 ⟨a5, n5, c5, rfl, hT, hb2⟩; have h2 := h1.keep hb2; have HD := mkHid (rodd_nm h2); rw [← HOB.out] at HD)
      | (go_at_call 86; (with_reducible refine HD.out.mono ?_); rintro e w' ⟨rfl, rfl⟩)
      | (go_at_call 17; (with_reducible refine (rcmp_nm h2 hT).mono ?_); rintro e w3 ⟨rfl, hb3⟩; rw [← HCV.out]))
    go_ret
    exact ⟨by rw [← hc.out]; rfl, hb1.trans ((hb2.trans (hb3.mono hb2.size)).mono hb1.size)⟩
  · go_enter Try.func48, Try.ntmps48
    go_wp2_with (first
      | (go_at_call 45; (with_reducible refine (rof1 2 (by omega) (by omega) _).mono ?_); rintro e w1 ⟨a4, n4, c4, rfl, hO, hb1⟩; have h1 := h.keep hb1)
      | (go_at_call 45; (with_reducible refine (rof2 2 (by omega) (by omega) _).mono ?_); rintro e w2 ⟨a5, n5, c5, rfl, hT, hb2⟩; have h2 := h1.keep hb2; have HD := mkHid (rodd_nm h2); rw [← HOB.out] at HD)
      | (go_at_call 86; (with_reducible refine HD.out.mono ?_); rintro e w' ⟨rfl, rfl⟩)
      | (go_at_call 17; (with_reducible refine (rcmp_nm h2 hT).mono ?_); rintro e w3 ⟨rfl, hb3⟩; rw [← HCV.out]; have h3 := h2.keep hb3; have hT3 := hT.keep hb3; clear h2)
      | (go_at_call 17; (with_reducible refine (rcmp_nm h3 hT3).mono ?_); rintro e w4 ⟨rfl, hb4⟩; rw [← HCV.out]))
    go_ret
    exact ⟨by rw [← hc.out]; rfl, hb1.trans ((hb2.trans ((hb3.trans (hb4.mono hb3.size)).mono hb2.size)).mono hb1.size)⟩

set_option maxHeartbeats 2000000 in
theorem rstrong_yes (h : Rf w a1 n1 c1 m u) (h' : Rf w a2 n2 c2 k v) (hu : ¬ (u % 2 = 0 ∨ u < 2)) (hm4 : m ≤ 400000) (hm2 : 2 ≤ m) : Calls Try.prog 48 #[.slice a1 n1 c1, .slice a2 n2 c2] w (GivesBool w (strongB u v)) := by
  have hp : 2 < u := by omega
  have hobs := mkHid (show decide (u % 2 = 1) = true from decide_eq_true (by omega))
  obtain ⟨cv, hcv⟩ : ∃ cv, cv = cmpI u 2 := ⟨_, rfl⟩
  have t1 : decide (cv ≤ 0) = false := by rw [hcv, cmpI_le]; exact decide_eq_false (by omega)
  have HCV := mkHid hcv
  obtain ⟨B, hB⟩ : ∃ B, B = bitLen u := ⟨_, rfl⟩
  have HB := mkHid hB
  have hBm : B ≤ 1000000 := by rw [hB]; exact Nat.le_trans ((bitLen_le u m).2 h.lt.out) h.hm
  have hmay : mayB [u] = decide (B ≤ 4096) := by simp [mayB, hB]
  have hmm := h.hm
  clear hcv hB
  by_cases hbig : 4096 < B
  · have hR : strongB u v = false := by unfold strongB; rw [if_neg hu, if_neg (by rw [hmay, decide_eq_true_iff]; omega)]
    rw [hR]
    have t2 : decide (4096 < (B : Int)) = true := decide_eq_true (by omega)
    clear hR hbig hmay hu
    go_enter Try.func48, Try.ntmps48
    go_wp2_with (first
      | (go_at_call 45; (with_reducible refine (rof1 2 (by omega) (by omega) _).mono ?_); rintro e w1 ⟨a4, n4, c4, rfl, hO, hb1⟩; have h1 := h.keep hb1)
      | (go_at_call 45; (with_reducible refine (rof2 2 (by omega) (by omega) _).mono ?_); rintro e w2 ⟨a5, n5, c5, rfl, hT, hb2⟩; have h2 := h1.keep hb2; have HD := mkHid (rodd_nm h2); rw [hobs.out] at HD)
      | (go_at_call 86; (with_reducible refine HD.out.mono ?_); rintro e w' ⟨rfl, rfl⟩)
      | (go_at_call 17; (with_reducible refine (rcmp_nm h2 hT).mono ?_); rintro e w3 ⟨rfl, hb3⟩; rw [← HCV.out]; have h3 := h2.keep hb3)
      | (go_at_call 25; (with_reducible refine (rbits_nm h3).mono ?_); rintro e w' ⟨rfl, rfl⟩; rw [← HB.out]))
    go_ret
    exact ⟨rfl, hb1.trans ((hb2.trans (hb3.mono hb2.size)).mono hb1.size)⟩
  · have hm1 : mayB [u] = true := by rw [hmay]; exact decide_eq_true (by omega)
    have t2 : decide (4096 < (B : Int)) = false := decide_eq_false (by omega)
    obtain ⟨RR, hRR⟩ : ∃ RR, RR = strongB u v := ⟨_, rfl⟩
    rw [← hRR]
    have hR : RR = (if v % u = 0 then true else decide ((v % u) ^ ((u - 1) / 2 ^ tz (u - 1)) % u = 1) || sLoop u (u - 1) (tz (u - 1)) ((v % u) ^ ((u - 1) / 2 ^ tz (u - 1)) % u)) := by
      rw [hRR]; unfold strongB; rw [if_neg hu, if_pos hm1]
    obtain ⟨L, hL⟩ : ∃ L, L = u - 1 := ⟨_, rfl⟩
    obtain ⟨s, hs⟩ : ∃ s, s = tz L := ⟨_, rfl⟩
    rw [← hL, ← hs] at hR
    have hL0 : 0 < L := by omega
    obtain ⟨z1, z2⟩ := tz_spec L hL0
    rw [← hs] at z1 z2
    have hsm : s < m := by rw [hs]; exact tz_le L m hL0 (by have := h.lt.out; omega)
    have HR := mkHid hR
    have HL := mkHid hL
    have Z1 := mkHid z1
    have Z2 := mkHid z2
    clear hR hRR hL hs z1 z2 hm1 hmay hbig hu
    go_enter Try.func48, Try.ntmps48
    go_wp2_with (first
      | (go_at_call 45; (with_reducible refine (rof1 2 (by omega) (by omega) _).mono ?_); rintro e w1 ⟨a4, n4, c4, rfl, hO, hb1⟩; have h1 := h.keep hb1; have h1' := h'.keep hb1)
      | (go_at_call 45; (with_reducible refine (rof2 2 (by omega) (by omega) _).mono ?_); rintro e w2 ⟨a5, n5, c5, rfl, hT, hb2⟩; have h2 := h1.keep hb2; have h2' := h1'.keep hb2; have hO2 := hO.keep hb2; have HD := mkHid (rodd_nm h2); rw [hobs.out] at HD)
      | (go_at_call 86; (with_reducible refine HD.out.mono ?_); rintro e w' ⟨rfl, rfl⟩)
      | (go_at_call 17; (with_reducible refine (rcmp_nm h2 hT).mono ?_); rintro e w3 ⟨rfl, hb3⟩; rw [← HCV.out]; have h3 := h2.keep hb3; have h3' := h2'.keep hb3; have hO3 := hO2.keep hb3; have hT3 := hT.keep hb3)
      | (go_at_call 25; (with_reducible refine (rbits_nm h3).mono ?_); rintro e w' ⟨rfl, rfl⟩; rw [← HB.out])
      | (go_at_call 39; (with_reducible refine (rsub_nm h3 hO3 (by omega)).mono ?_); rintro e w4 ⟨a6, n6, c6, rfl, hL', hb4⟩; rw [← HL.out] at hL'; have h4 := h3.keep hb4; have h4' := h3'.keep hb4; have hO4 := hO3.keep hb4; have hT4 := hT3.keep hb4))
    have hbT := hb1.trans ((hb2.trans ((hb3.trans (hb4.mono hb3.size)).mono hb2.size)).mono hb1.size)
    clear h1 h1' h2 h2' h3 h3' hO hO2 hO3 hT hT3 hb1 hb2 hb3 hb4 h h' HCV HB t1 t2 HD
    go_loopw [8, 9] (fun dv sv wr => ∃ (j : Nat) (a : Option Addr) (n c : Nat), j ≤ s ∧ sv = .int .i64 j ∧ dv = .slice a n c ∧ Rf wr a n c m (L / 2 ^ j) ∧ Rf wr a6 n6 c6 m L ∧ Rf wr a1 n1 c1 m u ∧ Rf wr a2 n2 c2 k v ∧
      Rf wr a4 n4 c4 2 1 ∧ Rf wr a5 n5 c5 2 2 ∧ Below w.heap.size w wr) (fun _ sv _ => s - (intOf sv).toNat)
    case atStart => exact ⟨0, a6, n6, c6, Nat.zero_le _, rfl, rfl, by rw [Nat.pow_zero, Nat.div_one]; exact hL', hL', h4, h4', hO4, hT4, hbT⟩
    case round =>
      clear hL' h4 h4' hO4 hT4 hbT
      obtain ⟨j, a, n, c, hj, rfl, rfl, hD, hL', hU, hV, hO, hT, hbT⟩ := hrel
      have hod := rodd_nm hD
      obtain ⟨db, hdb⟩ : ∃ db, db = decide (L / 2 ^ j % 2 = 1) := ⟨_, rfl⟩
      rw [← hdb] at hod
      have HOD := mkHid hod
      by_cases hlt : j < s
      · have e0 : db = false := by rw [hdb]; exact decide_eq_false (by rw [low_bits L s j Z1.out hlt]; omega)
        subst e0
        clear hod hdb
        go_wp2_with (first
          | (go_at_call 86; (with_reducible refine HOD.out.mono ?_); rintro e w' ⟨rfl, rfl⟩)
          | (go_at_call 23; (with_reducible refine (rquo_nm hD hT (by omega)).mono ?_); rintro e w5 ⟨a7, n7, c7, a8, n8, c8, rfl, hQ, _, hb5⟩))
        go_roundw
        case rel =>
          refine ⟨j + 1, a7, n7, c7, by omega, by go_num, rfl, ?_, hL'.keep hb5, hU.keep hb5, hV.keep hb5, hO.keep hb5, hT.keep hb5, hbT.trans (hb5.mono hbT.size)⟩
          rw [Nat.pow_succ, ← Nat.div_div_eq_div_mul]
          exact hQ
        case measure => simp [intOf]; omega
      · obtain rfl : j = s := by omega
        have e0 : db = true := by rw [hdb]; exact decide_eq_true Z2.out
        subst e0
        clear hod hdb
        obtain ⟨D, hDD⟩ : ∃ D, D = L / 2 ^ j := ⟨_, rfl⟩
        rw [← hDD] at hD HR
        clear hDD
        by_cases h0 : v % u = 0
        · have H0 := mkHid h0
          have HRT : Hid (RR = true) := by show _ = _; rw [HR.out, if_pos h0]
          clear h0
          go_wp2_with (first
            | (go_at_call 86; (with_reducible refine HOD.out.mono ?_); rintro e w' ⟨rfl, rfl⟩)
            | (go_at_call 54; (with_reducible refine (rmod_nm hV hU (by omega)).mono ?_); rintro e w5 ⟨a7, n7, c7, rfl, hW, hb5⟩; rw [H0.out] at hW; obtain rfl : n7 = 0 := hW.zero))
          go_ret
          exact ⟨by rw [HRT.out]; rfl, hbT.trans (hb5.mono hbT.size)⟩
        · obtain ⟨A, hA⟩ : ∃ A, A = v % u := ⟨_, rfl⟩
          have hA0 : 0 < A := by omega
          obtain ⟨x0, hx0⟩ : ∃ x0, x0 = A ^ D % u := ⟨_, rfl⟩
          have hx0u : x0 < u := by rw [hx0]; exact Nat.mod_lt _ (by omega)
          have hR2 := HR.out
          rw [if_neg h0, ← hA, ← hx0] at hR2
          have HR2 := mkHid hR2
          have HA := mkHid hA
          have HX0 := mkHid hx0
          obtain ⟨c0, hc0⟩ : ∃ c0, c0 = cmpI x0 1 := ⟨_, rfl⟩
          have hci := @cmpI_iff0 x0 1
          rw [← hc0] at hci
          have HC0 := mkHid hc0
          clear hR2 h0 hA hx0 hc0 HR
          by_cases h1 : x0 = 1
          · have t1 : (c0 == 0) = true := by rw [beq_iff_eq]; exact hci.2 h1
            have HRT : Hid (RR = true) := by show _ = _; rw [HR2.out, decide_eq_true h1]; rfl
            clear hci h1
            go_wp2_with (first
              | (go_at_call 86; (with_reducible refine HOD.out.mono ?_); rintro e w' ⟨rfl, rfl⟩)
              | (go_at_call 54; (with_reducible refine (rmod_nm hV hU (by omega)).mono ?_); rintro e w5 ⟨a7, n7, c7, rfl, hW, hb5⟩; rw [← HA.out] at hW; have hn7 := hW.pos hA0; have t3 : ((n7 : Int) == 0) = false := beq_f (n := 0) (by omega); have hD5 := hD.keep hb5; have hU5 := hU.keep hb5; have hO5 := hO.keep hb5)
              | (go_at_call 56; (with_reducible refine (rexp_nm hW hD5 hU5 (by omega) hm4).mono ?_); rintro e w6 ⟨a8, n8, c8, rfl, hX, hb6⟩; rw [← HX0.out] at hX; have hO6 := hO5.keep hb6)
              | (go_at_call 17; (with_reducible refine (rcmp_nm hX hO6).mono ?_); rintro e w7 ⟨rfl, hb7⟩; rw [← HC0.out]))
            go_ret
            exact ⟨by rw [HRT.out]; rfl, hbT.trans ((hb5.trans ((hb6.trans (hb7.mono hb6.size)).mono hb5.size)).mono hbT.size)⟩
          · have t1 : (c0 == 0) = false := by rw [beq_eq_false_iff_ne]; exact fun h => h1 (hci.1 h)
            have HRS : Hid (RR = sLoop u L (j - 0) x0) := by show _ = _; rw [HR2.out, decide_eq_false h1, Nat.sub_zero]; rfl
            clear hci h1
            go_wp2_with (first
              | (go_at_call 86; (with_reducible refine HOD.out.mono ?_); rintro e w' ⟨rfl, rfl⟩)
              | (go_at_call 54; (with_reducible refine (rmod_nm hV hU (by omega)).mono ?_); rintro e w5 ⟨a7, n7, c7, rfl, hW, hb5⟩; rw [← HA.out] at hW; have hn7 := hW.pos hA0; have t3 : ((n7 : Int) == 0) = false := beq_f (n := 0) (by omega); have hD5 := hD.keep hb5; have hU5 := hU.keep hb5; have hO5 := hO.keep hb5; have hL5 := hL'.keep hb5)
              | (go_at_call 56; (with_reducible refine (rexp_nm hW hD5 hU5 (by omega) hm4).mono ?_); rintro e w6 ⟨a8, n8, c8, rfl, hX, hb6⟩; rw [← HX0.out] at hX; have hO6 := hO5.keep hb6; have hL6 := hL5.keep hb6; have hU6 := hU5.keep hb6)
              | (go_at_call 17; (with_reducible refine (rcmp_nm hX hO6).mono ?_); rintro e w7 ⟨rfl, hb7⟩; rw [← HC0.out]; have hX7 := hX.keep hb7; have hL7 := hL6.keep hb7; have hU7 := hU6.keep hb7))
            have hbT7 := hbT.trans ((hb5.trans ((hb6.trans (hb7.mono hb6.size)).mono hb5.size)).mono hbT.size)
            have hu0 : 0 < u := by omega
            clear hX hL5 hL6 hU5 hU6 hO5 hO6 hD5 hW hb5 hb6 hb7 hbT hU hL' hO hT hV hD HOD HR2 HA HX0 HC0 t1 hn7 t3
            go_loopw [10, 11] (fun xv iv wr => ∃ (i x : Nat) (a : Option Addr) (n c : Nat), i ≤ j ∧ iv = .int .i64 i ∧ xv = .slice a n c ∧ Rf wr a n c m x ∧ Hid (RR = sLoop u L (j - i) x) ∧ Rf wr a6 n6 c6 m L ∧ Rf wr a1 n1 c1 m u ∧ Below w.heap.size w wr) (fun _ iv _ => j - (intOf iv).toNat)
            case atStart => exact ⟨0, x0, a8, n8, c8, Nat.zero_le _, rfl, rfl, hX7, HRS, hL7, hU7, hbT7⟩
            case round =>
              clear hX7 HRS hL7 hU7 hbT7
              obtain ⟨i, x, a, n, c, hi, rfl, rfl, hX, hA, hL, hU, hbT⟩ := hrel
              by_cases hlt : i < j
              · obtain ⟨d, hd⟩ : ∃ d, d = j - (i + 1) := ⟨_, rfl⟩
                have hst : Hid (RR = (decide (x = L) || sLoop u L d (x * x % u))) := by
                  show _ = _
                  rw [hA.out, show j - i = d + 1 by omega, sLoop]
                have HDD := mkHid hd
                obtain ⟨c1', hc1⟩ : ∃ c1, c1 = cmpI x L := ⟨_, rfl⟩
                have hci := @cmpI_iff0 x L
                rw [← hc1] at hci
                have HC1 := mkHid hc1
                clear hd hc1
                by_cases hxL : x = L
                · have t1 : (c1' == 0) = true := by rw [beq_iff_eq]; exact hci.2 hxL
                  have HRT : Hid (RR = true) := by show _ = _; rw [hst.out, decide_eq_true hxL]; rfl
                  clear hci hxL
                  go_wp2_with (first
                    | (go_at_call 17; (with_reducible refine (rcmp_nm hX hL).mono ?_); rintro e w7 ⟨rfl, hb7⟩; rw [← HC1.out]))
                  go_ret
                  exact ⟨by rw [HRT.out]; rfl, hbT.trans (hb7.mono hbT.size)⟩
                · have t1 : (c1' == 0) = false := by rw [beq_eq_false_iff_ne]; exact fun h => hxL (hci.1 h)
                  have HRN : Hid (RR = sLoop u L (j - (i + 1)) (x * x % u)) := by show _ = _; rw [hst.out, decide_eq_false hxL, ← HDD.out]; rfl
                  clear hci hxL
                  go_wp2_with (first
                    | (go_at_call 17; (with_reducible refine (rcmp_nm hX hL).mono ?_); rintro e w7 ⟨rfl, hb7⟩; rw [← HC1.out]; have hX7 := hX.keep hb7; have hU7 := hU.keep hb7; have hL7 := hL.keep hb7)
                    | (go_at_call 55; (with_reducible refine (rmulm_nm hX7 hX7 hU7 hu0 (by omega)).mono ?_); rintro e w8 ⟨a9, n9, c9, rfl, hY, hb8⟩))
                  go_roundw
                  case rel => exact ⟨i + 1, x * x % u, a9, n9, c9, by omega, by go_num, rfl, hY, HRN, hL7.keep hb8, hU7.keep hb8, hbT.trans ((hb7.trans (hb8.mono hb7.size)).mono hbT.size)⟩
                  case measure => simp [intOf]; omega
              · obtain rfl : i = j := by omega
                have HRT : Hid (RR = false) := by show _ = _; rw [hA.out, Nat.sub_self]; rfl
                go_wp2
                go_ret
                exact ⟨by rw [HRT.out]; rfl, hbT⟩

theorem rstrong_any (h : Rf w a1 n1 c1 m u) (h' : Rf w a2 n2 c2 k v) (hm4 : m ≤ 400000) (hm2 : 2 ≤ m) : Calls Try.prog 48 #[.slice a1 n1 c1, .slice a2 n2 c2] w (GivesBool w (strongB u v)) := by
  by_cases hu : u % 2 = 0 ∨ u < 2
  · exact rstrong_no h hu
  · exact rstrong_yes h h' hu hm4 hm2

end

end Go.Proofs.Ytaeamlldocbeeaa
