/- baileyref2: Few, Probable. -/
import Derived.Test.YtaeamlldocbeeaaRmod3
import Derived.Test.YtaeamlldocbeeaaMod7
namespace Go.Proofs.Ytaeamlldocbeeaa
open Go.RowKit Num

/-- no small prime divides a number but itself -/
def noSmall (N : Nat) : Bool := fewL.all fun q => !(decide (N % q = 0) && decide (N ≠ q))

/-- the reference's word on primes -/
def rprobB (N : Nat) : Bool := noSmall N && (if N = 2 then true else if N % 2 = 0 ∨ N ≤ 2 then false else mayB [N] && fewL.all (strongB N))

theorem rfew_any (w : World) : Calls Try.prog 95 #[] w fun e w' => ∃ b, e = .returned (.slice (some ⟨b, 0, none⟩) 12 12) ∧ Sl .u64 w' (some ⟨b, 0, none⟩) 12 12 fewL ∧ Below w.heap.size w w' := by
  go_enter Try.func95, Try.ntmps95
  go_wp2
  go_ret
  refine ⟨_, rfl, ?_, below_alloc _ (Nat.le_refl _)⟩
  refine Blk.sl (T := 54) (k := .u64) ?_ 12 rfl (by omega)
  unfold Blk
  rw [heap_alloc_new]
  rfl

theorem few_pos (i : Nat) (hi : i < 12) : 2 ≤ fewL.getD i 0 := by
  have h : i = 0 ∨ i = 1 ∨ i = 2 ∨ i = 3 ∨ i = 4 ∨ i = 5 ∨ i = 6 ∨ i = 7 ∨ i = 8 ∨ i = 9 ∨ i = 10 ∨ i = 11 := by omega
  rcases h with rfl | rfl | rfl | rfl | rfl | rfl | rfl | rfl | rfl | rfl | rfl | rfl <;> decide

theorem few_get (i : Nat) (h : i < fewL.length) : fewL[i] = fewL.getD i 0 := by
  rw [List.getD, List.getElem?_eq_getElem h, Option.getD_some]

theorem all_fewP {P : Nat → Bool} (h : ∀ i, i < 12 → P (fewL.getD i 0) = true) : fewL.all P = true := by
  rw [List.all_eq_true]
  intro x hx
  obtain ⟨i, hi, rfl⟩ := List.getElem_of_mem hx
  have := h i hi
  rwa [List.getD, List.getElem?_eq_getElem hi] at this

theorem not_all_fewP {P : Nat → Bool} {i : Nat} (hi : i < 12) (h : P (fewL.getD i 0) = false) : fewL.all P = false := by
  rw [← Bool.not_eq_true, List.all_eq_true]
  intro hc
  have hl : i < fewL.length := hi
  have := hc fewL[i] (List.getElem_mem hl)
  rw [List.getD, List.getElem?_eq_getElem hl, Option.getD_some] at h
  rw [h] at this
  cases this

section
variable {w : World} {a1 a2 a3 : Option Addr} {n1 c1 n2 c2 n3 c3 m k l u v x : Nat}

set_option maxHeartbeats 2000000 in
theorem rprob_any (h : Rf w a1 n1 c1 m u) (hm4 : m ≤ 400000) (hm2 : 2 ≤ m) : Calls Try.prog 88 #[.slice a1 n1 c1] w (GivesBool w (rprobB u)) := by
  obtain ⟨RR, hRR⟩ : ∃ RR, RR = rprobB u := ⟨_, rfl⟩
  rw [← hRR]
  have HR := mkHid hRR
  clear hRR
  go_enter Try.func88, Try.ntmps88
  go_wp2_with (first
    | (go_at_call 95; (with_reducible refine (rfew_any _).mono ?_); rintro e w1 ⟨b, rfl, hF, hb1⟩))
  have h1 := h.keep hb1
  go_loopw [4] (fun iv wr => ∃ i : Nat, i ≤ 12 ∧ iv = .int .i64 i ∧ Hid (∀ j, j < i → (!(decide (u % fewL.getD j 0 = 0) && decide (u ≠ fewL.getD j 0))) = true) ∧ Rf wr a1 n1 c1 m u ∧ Sl .u64 wr (some ⟨b, 0, none⟩) 12 12 fewL ∧ Below w.heap.size w wr) (fun iv _ => 12 - (intOf iv).toNat)
  case atStart => exact ⟨0, by omega, rfl, fun j hj => by omega, h1, hF, hb1⟩
  case round =>
    clear h1 hF hb1 h
    obtain ⟨i, hi, rfl, hno, hU, hF, hbT⟩ := hrel
    by_cases hlt : i < 12
    · have t1 : decide ((i : Int) < 12) = true := decide_eq_true (by omega)
      have i0 : (i : Int) < (12 : Int) := by omega
      obtain ⟨q, hq⟩ : ∃ q, q = fewL.getD i 0 := ⟨_, rfl⟩
      have hq2 : 2 ≤ q := by rw [hq]; exact few_pos i hlt
      have hq37 : q ≤ 37 := by rw [hq]; exact few_le i
      have hfl : i < fewL.length := hlt
      have hcx := hF.cell i hfl
      rw [Nat.zero_add, few_get i hfl, ← hq] at hcx
      have hq0 : 0 < q := by omega
      have HQ := mkHid hq
      obtain ⟨cv, hcv⟩ : ∃ cv, cv = cmpI u q := ⟨_, rfl⟩
      have hci := @cmpI_iff0 u q
      rw [← hcv] at hci
      have HCV := mkHid hcv
      clear hcv hq hfl
      by_cases h0 : u % q = 0
      · have H0 := mkHid h0
        by_cases huq : u = q
        · have t2 : (cv != 0) = false := by rw [bne_eq_false_iff_eq]; exact hci.2 huq
          have HUQ := mkHid huq
          clear h0 huq hci
          go_wp2_with (first
            | (go_at_call 45; (with_reducible refine (rof_nm q 10 (by omega) (by omega) (by omega) _).mono ?_); rintro e w2 ⟨a4, n4, c4, rfl, hP, hb2⟩; have hU2 := hU.keep hb2; have hF2 := hF.keep hb2)
            | (go_at_call 54; (with_reducible refine (rmod_nm hU2 hP hq0).mono ?_); rintro e w3 ⟨a5, n5, c5, rfl, hR, hb3⟩; rw [H0.out] at hR; obtain rfl : n5 = 0 := hR.zero; have hU3 := hU2.keep hb3; have hF3 := hF2.keep hb3; have hP3 := hP.keep hb3)
            | (go_at_call 17; (with_reducible refine (rcmp_nm hU3 hP3).mono ?_); rintro e w4 ⟨rfl, hb4⟩; rw [← HCV.out]))
          go_roundw
          case rel =>
            refine ⟨i + 1, by omega, by go_num, fun j hj => ?_, hU3.keep hb4, hF3.keep hb4, hbT.trans ((hb2.trans ((hb3.trans (hb4.mono hb3.size)).mono hb2.size)).mono hbT.size)⟩
            by_cases hji : j < i
            · exact hno.out j hji
            · obtain rfl : j = i := by omega
              rw [← HQ.out, decide_eq_false (show ¬ u ≠ q from fun h => h HUQ.out), Bool.and_false]; rfl
          case measure => simp [intOf]; omega
        · have t2 : (cv != 0) = true := by rw [bne_iff_ne]; exact fun h => huq (hci.1 h)
          have HRT : Hid (RR = false) := by
            show _ = _
            have : noSmall u = false := not_all_fewP (P := fun q => !(decide (u % q = 0) && decide (u ≠ q))) hlt (by show (!(decide (u % fewL.getD i 0 = 0) && decide (u ≠ fewL.getD i 0))) = false; rw [← HQ.out, decide_eq_true h0, decide_eq_true huq]; rfl)
            rw [HR.out, rprobB, this]; rfl
          clear h0 huq hci
          go_wp2_with (first
            | (go_at_call 45; (with_reducible refine (rof_nm q 10 (by omega) (by omega) (by omega) _).mono ?_); rintro e w2 ⟨a4, n4, c4, rfl, hP, hb2⟩; have hU2 := hU.keep hb2)
            | (go_at_call 54; (with_reducible refine (rmod_nm hU2 hP hq0).mono ?_); rintro e w3 ⟨a5, n5, c5, rfl, hR, hb3⟩; rw [H0.out] at hR; obtain rfl : n5 = 0 := hR.zero; have hU3 := hU2.keep hb3; have hP3 := hP.keep hb3)
            | (go_at_call 17; (with_reducible refine (rcmp_nm hU3 hP3).mono ?_); rintro e w4 ⟨rfl, hb4⟩; rw [← HCV.out]))
          go_ret
          exact ⟨by rw [HRT.out]; rfl, hbT.trans ((hb2.trans ((hb3.trans (hb4.mono hb3.size)).mono hb2.size)).mono hbT.size)⟩
      · obtain ⟨r, hr⟩ : ∃ r, r = u % q := ⟨_, rfl⟩
        have hr0 : 0 < r := by omega
        have H0 := mkHid h0
        have HRR := mkHid hr
        clear h0 hr hci
        go_wp2_with (first
          | (go_at_call 45; (with_reducible refine (rof_nm q 10 (by omega) (by omega) (by omega) _).mono ?_); rintro e w2 ⟨a4, n4, c4, rfl, hP, hb2⟩; have hU2 := hU.keep hb2; have hF2 := hF.keep hb2)
          | (go_at_call 54; (with_reducible refine (rmod_nm hU2 hP hq0).mono ?_); rintro e w3 ⟨a5, n5, c5, rfl, hR, hb3⟩; rw [← HRR.out] at hR; have hn5 := hR.pos hr0; have t3 : ((n5 : Int) == 0) = false := beq_f (n := 0) (by omega)))
        go_roundw
        case rel =>
          refine ⟨i + 1, by omega, by go_num, fun j hj => ?_, hU2.keep hb3, hF2.keep hb3, hbT.trans ((hb2.trans (hb3.mono hb2.size)).mono hbT.size)⟩
          by_cases hji : j < i
          · exact hno.out j hji
          · obtain rfl : j = i := by omega
            rw [← HQ.out, decide_eq_false H0.out]; rfl
        case measure => simp [intOf]; omega
    · obtain rfl : i = 12 := by omega
      have hns : noSmall u = true := all_fewP (P := fun q => !(decide (u % q = 0) && decide (u ≠ q))) (fun i hi => hno.out i hi)
      have hR2 := HR.out
      rw [rprobB, hns, Bool.true_and] at hR2
      obtain ⟨cv, hcv⟩ : ∃ cv, cv = cmpI u 2 := ⟨_, rfl⟩
      have hci := @cmpI_iff0 u 2
      have hle := cmpI_le u 2
      rw [← hcv] at hci hle
      have HCV := mkHid hcv
      obtain ⟨ob, hob⟩ : ∃ ob, ob = decide (u % 2 = 1) := ⟨_, rfl⟩
      have HOB := mkHid hob
      obtain ⟨B, hB⟩ : ∃ B, B = bitLen u := ⟨_, rfl⟩
      have HB := mkHid hB
      have hBm : B ≤ 1000000 := by rw [hB]; exact Nat.le_trans ((bitLen_le u m).2 hU.lt.out) hU.hm
      have hmay : mayB [u] = decide (B ≤ 4096) := by simp [mayB, hB]
      clear hcv hns HR hno hB
      by_cases h2 : u = 2
      · have t2 : (cv == 0) = true := by rw [beq_iff_eq]; exact hci.2 h2
        rw [if_pos h2] at hR2
        have HRT := mkHid hR2
        clear hci hle h2 hob hR2 hmay
        go_wp2_with (first
          | (go_at_call 45; (with_reducible refine (rof2 2 (by omega) (by omega) _).mono ?_); rintro e w2 ⟨a4, n4, c4, rfl, hP, hb2⟩; have hU2 := hU.keep hb2)
          | (go_at_call 17; (with_reducible refine (rcmp_nm hU2 hP).mono ?_); rintro e w4 ⟨rfl, hb4⟩; rw [← HCV.out]))
        go_ret
        exact ⟨by rw [HRT.out]; rfl, hbT.trans ((hb2.trans (hb4.mono hb2.size)).mono hbT.size)⟩
      · have t2 : (cv == 0) = false := by rw [beq_eq_false_iff_ne]; exact fun h => h2 (hci.1 h)
        rw [if_neg h2] at hR2
        clear hci h2
        by_cases ho : u % 2 = 1
        · obtain rfl : ob = true := by rw [hob]; exact decide_eq_true ho
          by_cases hle2 : u ≤ 2
          · have t3 : decide (cv ≤ 0) = true := by rw [hle]; exact decide_eq_true hle2
            rw [if_pos (.inr hle2)] at hR2
            have HRT := mkHid hR2
            clear hle hob ho hle2 hR2 hmay
            go_wp2_with (first
              | (go_at_call 45; (with_reducible refine (rof2 2 (by omega) (by omega) _).mono ?_); rintro e w2 ⟨a4, n4, c4, rfl, hP, hb2⟩; have hU2 := hU.keep hb2)
              | (go_at_call 17; (with_reducible refine (rcmp_nm hU2 hP).mono ?_); rintro e w4 ⟨rfl, hb4⟩; rw [← HCV.out]; have hU4 := hU2.keep hb4; have HD := mkHid (rodd_nm hU4); rw [← HOB.out] at HD; clear hP)
              | (go_at_call 86; (with_reducible refine HD.out.mono ?_); rintro e w' ⟨rfl, rfl⟩)
              | (go_at_call 45; (with_reducible refine (rof2 2 (by omega) (by omega) _).mono ?_); rintro e w5 ⟨a6, n6, c6, rfl, hP5, hb5⟩; have hU5 := hU4.keep hb5)
              | (go_at_call 17; (with_reducible refine (rcmp_nm hU5 hP5).mono ?_); rintro e w6 ⟨rfl, hb6⟩; rw [← HCV.out]))
            go_ret
            exact ⟨by rw [HRT.out]; rfl, hbT.trans ((hb2.trans ((hb4.trans ((hb5.trans (hb6.mono hb5.size)).mono hb4.size)).mono hb2.size)).mono hbT.size)⟩
          · have t3 : decide (cv ≤ 0) = false := by rw [hle]; exact decide_eq_false hle2
            rw [if_neg (by omega), hmay] at hR2
            by_cases hB4 : 4096 < B
            · have t4 : decide (4096 < (B : Int)) = true := decide_eq_true (by omega)
              rw [decide_eq_false (show ¬ B ≤ 4096 by omega), Bool.false_and] at hR2
              have HRT := mkHid hR2
              clear hle hob ho hle2 hR2 hmay hB4
              go_wp2_with (first
                | (go_at_call 45; (with_reducible refine (rof2 2 (by omega) (by omega) _).mono ?_); rintro e w2 ⟨a4, n4, c4, rfl, hP, hb2⟩; have hU2 := hU.keep hb2)
                | (go_at_call 17; (with_reducible refine (rcmp_nm hU2 hP).mono ?_); rintro e w4 ⟨rfl, hb4⟩; rw [← HCV.out]; have hU4 := hU2.keep hb4; have HD := mkHid (rodd_nm hU4); rw [← HOB.out] at HD; clear hP)
                | (go_at_call 86; (with_reducible refine HD.out.mono ?_); rintro e w' ⟨rfl, rfl⟩)
                | (go_at_call 45; (with_reducible refine (rof2 2 (by omega) (by omega) _).mono ?_); rintro e w5 ⟨a6, n6, c6, rfl, hP5, hb5⟩; have hU5 := hU4.keep hb5)
                | (go_at_call 17; (with_reducible refine (rcmp_nm hU5 hP5).mono ?_); rintro e w6 ⟨rfl, hb6⟩; rw [← HCV.out]; have hU6 := hU5.keep hb6)
                | (go_at_call 25; (with_reducible refine (rbits_nm hU6).mono ?_); rintro e w' ⟨rfl, rfl⟩; rw [← HB.out]))
              go_ret
              exact ⟨by rw [HRT.out]; rfl, hbT.trans ((hb2.trans ((hb4.trans ((hb5.trans (hb6.mono hb5.size)).mono hb4.size)).mono hb2.size)).mono hbT.size)⟩
            · have t4 : decide (4096 < (B : Int)) = false := decide_eq_false (by omega)
              rw [decide_eq_true (show B ≤ 4096 by omega), Bool.true_and] at hR2
              have HR2 := mkHid hR2
              clear hle hob ho hle2 hR2 hmay hB4
              go_wp2_with (first
                | (go_at_call 45; (with_reducible refine (rof2 2 (by omega) (by omega) _).mono ?_); rintro e w2 ⟨a4, n4, c4, rfl, hP, hb2⟩; have hU2 := hU.keep hb2; have hF2 := hF.keep hb2)
                | (go_at_call 17; (with_reducible refine (rcmp_nm hU2 hP).mono ?_); rintro e w4 ⟨rfl, hb4⟩; rw [← HCV.out]; have hU4 := hU2.keep hb4; have hF4 := hF2.keep hb4; have HD := mkHid (rodd_nm hU4); rw [← HOB.out] at HD; clear hP)
                | (go_at_call 86; (with_reducible refine HD.out.mono ?_); rintro e w' ⟨rfl, rfl⟩)
                | (go_at_call 45; (with_reducible refine (rof2 2 (by omega) (by omega) _).mono ?_); rintro e w5 ⟨a6, n6, c6, rfl, hP5, hb5⟩; have hU5 := hU4.keep hb5; have hF5 := hF4.keep hb5)
                | (go_at_call 17; (with_reducible refine (rcmp_nm hU5 hP5).mono ?_); rintro e w6 ⟨rfl, hb6⟩; rw [← HCV.out]; have hU6 := hU5.keep hb6; have hF6 := hF5.keep hb6)
                | (go_at_call 25; (with_reducible refine (rbits_nm hU6).mono ?_); rintro e w' ⟨rfl, rfl⟩; rw [← HB.out]))
              have hbT6 := hbT.trans ((hb2.trans ((hb4.trans ((hb5.trans (hb6.mono hb5.size)).mono hb4.size)).mono hb2.size)).mono hbT.size)
              clear hU hF hU2 hF2 hU4 hF4 hU5 hF5 hbT hb2 hb4 hb5 hb6 HD hP5 t2 t3 t4
              go_loopw [7] (fun iv wr => ∃ i : Nat, i ≤ 12 ∧ iv = .int .i64 i ∧ Hid (∀ j, j < i → strongB u (fewL.getD j 0) = true) ∧ Rf wr a1 n1 c1 m u ∧ Sl .u64 wr (some ⟨b, 0, none⟩) 12 12 fewL ∧ Below w.heap.size w wr) (fun iv _ => 12 - (intOf iv).toNat)
              case atStart => exact ⟨0, by omega, rfl, fun j hj => by omega, hU6, hF6, hbT6⟩
              case round =>
                clear hU6 hF6 hbT6
                obtain ⟨i, hi, rfl, hno, hU, hF, hbT⟩ := hrel
                by_cases hlt : i < 12
                · have t1 : decide ((i : Int) < 12) = true := decide_eq_true (by omega)
                  have i0 : (i : Int) < (12 : Int) := by omega
                  obtain ⟨q, hq⟩ : ∃ q, q = fewL.getD i 0 := ⟨_, rfl⟩
                  have hq37 : q ≤ 37 := by rw [hq]; exact few_le i
                  have hfl : i < fewL.length := hlt
                  have hcx := hF.cell i hfl
                  rw [Nat.zero_add, few_get i hfl, ← hq] at hcx
                  obtain ⟨sb, hsb⟩ : ∃ sb, sb = strongB u q := ⟨_, rfl⟩
                  have HSB := mkHid hsb
                  have HQ := mkHid hq
                  clear hq hsb hfl
                  cases sb with
                  | true =>
                    go_wp2_with (first
                      | (go_at_call 45; (with_reducible refine (rof_nm q 10 (by omega) (by omega) (by omega) _).mono ?_); rintro e w2 ⟨a4, n4, c4, rfl, hP, hb2⟩; have hU2 := hU.keep hb2; have hF2 := hF.keep hb2; have HST := mkHid (rstrong_any hU2 hP hm4 hm2); rw [← HSB.out] at HST)
                      | (go_at_call 48; (with_reducible refine HST.out.mono ?_); rintro e w3 ⟨rfl, hb3⟩))
                    go_roundw
                    case rel =>
                      refine ⟨i + 1, by omega, by go_num, fun j hj => ?_, hU2.keep hb3, hF2.keep hb3, hbT.trans ((hb2.trans (hb3.mono hb2.size)).mono hbT.size)⟩
                      by_cases hji : j < i
                      · exact hno.out j hji
                      · obtain rfl : j = i := by omega
                        rw [← HQ.out]; exact HSB.out.symm
                    case measure => simp [intOf]; omega
                  | false =>
                    have HRT : Hid (RR = false) := by
                      show _ = _
                      rw [HR2.out]
                      exact not_all_few hlt (by rw [← HQ.out]; exact HSB.out.symm)
                    go_wp2_with (first
                      | (go_at_call 45; (with_reducible refine (rof_nm q 10 (by omega) (by omega) (by omega) _).mono ?_); rintro e w2 ⟨a4, n4, c4, rfl, hP, hb2⟩; have hU2 := hU.keep hb2; have HST := mkHid (rstrong_any hU2 hP hm4 hm2); rw [← HSB.out] at HST)
                      | (go_at_call 48; (with_reducible refine HST.out.mono ?_); rintro e w3 ⟨rfl, hb3⟩))
                    go_ret
                    exact ⟨by rw [HRT.out]; rfl, hbT.trans ((hb2.trans (hb3.mono hb2.size)).mono hbT.size)⟩
                · obtain rfl : i = 12 := by omega
                  have HRT : Hid (RR = true) := by
                    show _ = _
                    rw [HR2.out]
                    exact all_few (fun i hi => hno.out i hi)
                  go_wp2
                  go_ret
                  exact ⟨by rw [HRT.out]; rfl, hbT⟩
        · obtain rfl : ob = false := by rw [hob]; exact decide_eq_false ho
          rw [if_pos (.inl (by omega))] at hR2
          have HRT := mkHid hR2
          clear hle hob ho hR2 hmay
          go_wp2_with (first
            | (go_at_call 45; (with_reducible refine (rof2 2 (by omega) (by omega) _).mono ?_); rintro e w2 ⟨a4, n4, c4, rfl, hP, hb2⟩; have hU2 := hU.keep hb2)
            | (go_at_call 17; (with_reducible refine (rcmp_nm hU2 hP).mono ?_); rintro e w4 ⟨rfl, hb4⟩; rw [← HCV.out]; have hU4 := hU2.keep hb4; have HD := mkHid (rodd_nm hU4); rw [← HOB.out] at HD)
            | (go_at_call 86; (with_reducible refine HD.out.mono ?_); rintro e w' ⟨rfl, rfl⟩))
          go_ret
          exact ⟨by rw [HRT.out]; rfl, hbT.trans ((hb2.trans (hb4.mono hb2.size)).mono hbT.size)⟩

end

end Go.Proofs.Ytaeamlldocbeeaa
