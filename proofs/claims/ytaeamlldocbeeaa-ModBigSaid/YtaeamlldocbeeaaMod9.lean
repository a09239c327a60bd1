/- modarith: parted. -/
import Derived.Test.YtaeamlldocbeeaaModA
namespace Go.Proofs.Ytaeamlldocbeeaa
open Go.RowKit Num

/-- the odd primes up to 37 -/
def oddL : List Nat := [3, 5, 7, 11, 13, 17, 19, 23, 29, 31, 37]

/-- does a small odd prime divide a number of more than six bits? -/
def partedB (N : Nat) : Bool := if N < 64 then false else oddL.any fun p => decide (N % 16294579238595022365 % p = 0)

abbrev oddAgg : Value := .agg #[.int .u64 3, .int .u64 5, .int .u64 7, .int .u64 11, .int .u64 13, .int .u64 17, .int .u64 19, .int .u64 23, .int .u64 29, .int .u64 31, .int .u64 37]

theorem oi0 (w : World) : (Instr.index 107 oddAgg (.int .i64 0)).run Try.prog w = .ok (.int .u64 3) w := by kernel_rfl
theorem oi1 (w : World) : (Instr.index 107 oddAgg (.int .i64 1)).run Try.prog w = .ok (.int .u64 5) w := by kernel_rfl
theorem oi2 (w : World) : (Instr.index 107 oddAgg (.int .i64 2)).run Try.prog w = .ok (.int .u64 7) w := by kernel_rfl
theorem oi3 (w : World) : (Instr.index 107 oddAgg (.int .i64 3)).run Try.prog w = .ok (.int .u64 11) w := by kernel_rfl
theorem oi4 (w : World) : (Instr.index 107 oddAgg (.int .i64 4)).run Try.prog w = .ok (.int .u64 13) w := by kernel_rfl
theorem oi5 (w : World) : (Instr.index 107 oddAgg (.int .i64 5)).run Try.prog w = .ok (.int .u64 17) w := by kernel_rfl
theorem oi6 (w : World) : (Instr.index 107 oddAgg (.int .i64 6)).run Try.prog w = .ok (.int .u64 19) w := by kernel_rfl
theorem oi7 (w : World) : (Instr.index 107 oddAgg (.int .i64 7)).run Try.prog w = .ok (.int .u64 23) w := by kernel_rfl
theorem oi8 (w : World) : (Instr.index 107 oddAgg (.int .i64 8)).run Try.prog w = .ok (.int .u64 29) w := by kernel_rfl
theorem oi9 (w : World) : (Instr.index 107 oddAgg (.int .i64 9)).run Try.prog w = .ok (.int .u64 31) w := by kernel_rfl
theorem oi10 (w : World) : (Instr.index 107 oddAgg (.int .i64 10)).run Try.prog w = .ok (.int .u64 37) w := by kernel_rfl

theorem odd_index (i : Nat) (hi : i < 11) (w : World) : (Instr.index 107 oddAgg (.int .i64 (i : Int))).run Try.prog w = .ok (.int .u64 ((oddL.getD i 0 : Nat) : Int)) w := by
  have h : i = 0 ∨ i = 1 ∨ i = 2 ∨ i = 3 ∨ i = 4 ∨ i = 5 ∨ i = 6 ∨ i = 7 ∨ i = 8 ∨ i = 9 ∨ i = 10 := by omega
  rcases h with rfl | rfl | rfl | rfl | rfl | rfl | rfl | rfl | rfl | rfl | rfl
  · exact oi0 w
  · exact oi1 w
  · exact oi2 w
  · exact oi3 w
  · exact oi4 w
  · exact oi5 w
  · exact oi6 w
  · exact oi7 w
  · exact oi8 w
  · exact oi9 w
  · exact oi10 w

theorem odd_pos (i : Nat) (hi : i < 11) : 3 ≤ oddL.getD i 0 ∧ oddL.getD i 0 ≤ 37 := by
  have h : i = 0 ∨ i = 1 ∨ i = 2 ∨ i = 3 ∨ i = 4 ∨ i = 5 ∨ i = 6 ∨ i = 7 ∨ i = 8 ∨ i = 9 ∨ i = 10 := by omega
  rcases h with rfl | rfl | rfl | rfl | rfl | rfl | rfl | rfl | rfl | rfl | rfl <;> decide

theorem of_prod (w : World) : Calls Try.prog 62 #[.int .u64 16294579238595022365] w (GivesC w 64 16294579238595022365) :=
  of_nm 16294579238595022365 64 (by omega) ⟨by omega⟩ (by omega) w

section
variable {w : World} {a1 : Option Addr} {n1 c1 m u : Nat}

theorem bl_lt7 {v : Nat} : bitLen v < 7 ↔ v < 64 := by
  have := bitLen_le v 6
  omega

theorem parted_small (h : Nm w a1 n1 c1 m u) (hu : u < 64) : Calls Try.prog 87 #[.slice a1 n1 c1] w (GivesBool w (partedB u)) := by
  have hR : partedB u = false := by unfold partedB; rw [if_pos hu]
  rw [hR]
  obtain ⟨B, hB⟩ : ∃ B, B = bitLen u := ⟨_, rfl⟩
  have hb7 := bl_lt7.2 hu
  have hbits := bits_nm h
  rw [← hB] at hbits hb7
  have HB := mkHid hbits
  have t1 : decide ((B : Int) < 7) = true := decide_eq_true (by omega)
  clear hbits hB hR
  go_enter Try.func87, Try.ntmps87
  go_wp2_with (go_at_call 28; (with_reducible refine HB.out.mono ?_); rintro e w' ⟨rfl, rfl⟩)
  go_ret
  exact ⟨rfl, Below.refl _ _⟩

set_option maxHeartbeats 1000000 in
theorem parted_big (h : Nm w a1 n1 c1 m u) (hu : 64 ≤ u) : Calls Try.prog 87 #[.slice a1 n1 c1] w (GivesBool w (partedB u)) := by
  obtain ⟨R, hR⟩ : ∃ R, R = partedB u := ⟨_, rfl⟩
  have hR2 : R = oddL.any fun p => decide (u % 16294579238595022365 % p = 0) := by rw [hR]; unfold partedB; rw [if_neg (by omega)]
  rw [← hR]
  obtain ⟨B, hB⟩ : ∃ B, B = bitLen u := ⟨_, rfl⟩
  have hb7 : ¬ bitLen u < 7 := fun h => by have := bl_lt7.1 h; omega
  have hbits := bits_nm h
  rw [← hB] at hbits hb7
  have HB := mkHid hbits
  have t1 : decide ((B : Int) < 7) = false := decide_eq_false (by omega)
  obtain ⟨r, hr⟩ : ∃ r, r = u % 16294579238595022365 := ⟨_, rfl⟩
  rw [← hr] at hR2
  have HR := mkHid hR2
  have hrW : r < 18446744073709551616 := by omega
  have HRR := mkHid hr
  clear hbits hB hR hR2 hr
  go_enter Try.func87, Try.ntmps87
  go_upto_if 15 with (first
    | (go_at_call 28; (with_reducible refine HB.out.mono ?_); rintro e w' ⟨rfl, rfl⟩)
    | (go_at_call 62; (with_reducible refine (of_prod _).mono ?_); rintro e w1 ⟨a4, n4, c4, rfl, hP, hb1⟩; have h1 := h.keep hb1)
    | (go_at_call 78; (with_reducible refine (rest_any h1 hP.nm (by omega)).mono ?_); rintro e w2 ⟨a5, n5, c5, rfl, hT, hb2⟩; rw [← HRR.out] at hT))
  have hbT := hb1.trans (hb2.mono hb1.size)
  go_cut [4] from 16 to 18 (fun v wc => v = .int .u64 (r : Int) ∧ w2 = wc)
  case first =>
    by_cases h0 : r = 0
    · subst h0
      obtain rfl : n5 = 0 := hT.zero
      go_wp2
      go_meet
      case rel => exact ⟨rfl, rfl⟩
    · have hn := hT.pos (by omega)
      have t2 : decide (0 < n5) = true := decide_eq_true hn
      obtain ⟨b6, o6, x, rfl, hcx, hx⟩ := hT.sl.get 0 hn
      have hxr := head_mod _ (dgW r) x hx.out
      rw [valW, Nat.mod_eq_of_lt hrW] at hxr
      subst hxr
      rw [Nat.add_zero] at hcx
      have i0 : (0 : Int) < (n5 : Int) := by omega
      clear h0
      go_wp2
      go_meet
      case rel => exact ⟨rfl, rfl⟩
  case rest =>
    obtain ⟨rfl, hwe⟩ := hcut
    subst hwe
    clear hT hP h1 h HB HRR
    generalize decide (0 < n5) = dd
    go_wp2
    go_loop [20] (fun iv => ∃ i : Nat, i ≤ 11 ∧ iv = .int .i64 i ∧ Hid (∀ j, j < i → ¬ r % oddL.getD j 0 = 0)) (fun iv => 11 - (intOf iv).toNat)
    case atStart => exact ⟨0, by omega, rfl, fun j hj => by omega⟩
    case round =>
      obtain ⟨i, hi, rfl, hno⟩ := hrel
      by_cases hlt : i < 11
      · have t2 : decide ((i : Int) < 11) = true := decide_eq_true (by omega)
        have hix := odd_index i hlt
        have hq := odd_pos i hlt
        obtain ⟨q, hqe⟩ : ∃ q, q = oddL.getD i 0 := ⟨_, rfl⟩
        rw [← hqe] at hix hq
        have HQ := mkHid hqe
        obtain ⟨z, hz⟩ : ∃ z, z = r % q := ⟨_, rfl⟩
        have ez : (r : Int) % (q : Int) = (z : Int) := by rw [hz]; simp
        have HZ := mkHid hz
        clear hqe hz
        by_cases h0 : z = 0
        · have t3 : ((z : Int) == 0) = true := beq_t (n := 0) h0
          have H0 := mkHid h0
          clear h0
          go_wp2
          go_ret
          refine ⟨?_, hbT⟩
          have : R = true := by
            rw [HR.out, List.any_eq_true]
            have hl : i < oddL.length := hlt
            refine ⟨oddL[i], List.getElem_mem hl, ?_⟩
            have e : q = oddL[i] := by rw [HQ.out, List.getD, List.getElem?_eq_getElem hl, Option.getD_some]
            rw [← e]
            exact decide_eq_true (by rw [← HZ.out]; exact H0.out)
          rw [this]
          rfl
        · have t3 : ((z : Int) == 0) = false := beq_f (n := 0) h0
          have H0 := mkHid h0
          clear h0
          go_wp2
          go_round
          case rel =>
            refine ⟨i + 1, by omega, by go_num, ?_⟩
            intro j hj
            by_cases hji : j < i
            · exact hno.out j hji
            · obtain rfl : j = i := by omega
              rw [← HQ.out, ← HZ.out]; exact H0.out
          case measure => simp [intOf]; omega
      · obtain rfl : i = 11 := by omega
        go_wp2
        go_ret
        refine ⟨?_, hbT⟩
        have : R = false := by
          rw [HR.out, ← Bool.not_eq_true, List.any_eq_true]
          rintro ⟨x, hx, hd⟩
          obtain ⟨j, hj, rfl⟩ := List.getElem_of_mem hx
          have := hno.out j hj
          rw [List.getD, List.getElem?_eq_getElem hj, Option.getD_some] at this
          exact this (of_decide_eq_true hd)
        rw [this]
        rfl

theorem parted_any (h : Nm w a1 n1 c1 m u) : Calls Try.prog 87 #[.slice a1 n1 c1] w (GivesBool w (partedB u)) := by
  by_cases hu : u < 64
  · exact parted_small h hu
  · exact parted_big h (by omega)

end

end Go.Proofs.Ytaeamlldocbeeaa
