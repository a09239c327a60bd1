/- math/bits: Div64. -/
import Derived.Test.YtaeamlldocbeeaaLimb7
import Derived.Test.YtaeamlldocbeeaaNum4
namespace Go.Proofs.Ytaeamlldocbeeaa
open Go.RowKit Num

theorem div64_big (hi lo y : Nat) (h0 : 0 < hi) (hy : hi < y) (hyW : y < 18446744073709551616) (s y' yn1 yn0 un32 un10 un1 un0 : Nat) (hs : s = 64 - bitLen y)
    (hs64 : s < 64)
    (f1 : IntKind.u64.wrap ((y : Int) * 2 ^ s) = (y' : Int)) (f2 : (y' : Int) / 4294967296 = (yn1 : Int)) (f3 : bits .and .u64 (y' : Int) 4294967295 = (yn0 : Int))
    (f4 : bits .or .u64 (IntKind.u64.wrap ((hi : Int) * 2 ^ s)) ((lo : Int) / 2 ^ (64 - s)) = (un32 : Int)) (f5 : IntKind.u64.wrap ((lo : Int) * 2 ^ s) = (un10 : Int))
    (f6 : (un10 : Int) / 4294967296 = (un1 : Int)) (f7 : bits .and .u64 (un10 : Int) 4294967295 = (un0 : Int)) (hn1 : 0 < yn1)
    (q0 r0 : Nat) (e8 : IntKind.u64.wrap ((un32 : Int) / (yn1 : Int)) = (q0 : Int)) (e9 : IntKind.u64.wrap ((un32 : Int) - IntKind.u64.wrap ((q0 : Int) * (yn1 : Int))) = (r0 : Int)) (S1 : Half yn1 yn0 un32 un1 q0 r0)
    (Q1 : Nat) (HQ1 : Hid (Q1 = (un32 * 4294967296 + un1) / (yn1 * 4294967296 + yn0)))
    (n21 : Nat) (e10 : IntKind.u64.wrap (IntKind.u64.wrap (IntKind.u64.wrap ((un32 : Int) * 4294967296) + (un1 : Int)) - IntKind.u64.wrap ((Q1 : Int) * (y' : Int))) = (n21 : Int))
    (p0 s0 : Nat) (e11 : IntKind.u64.wrap ((n21 : Int) / (yn1 : Int)) = (p0 : Int)) (e12 : IntKind.u64.wrap ((n21 : Int) - IntKind.u64.wrap ((p0 : Int) * (yn1 : Int))) = (s0 : Int)) (S2 : Half yn1 yn0 n21 un0 p0 s0)
    (Q2 : Nat) (HQ2 : Hid (Q2 = (n21 * 4294967296 + un0) / (yn1 * 4294967296 + yn0)))
    (A B C : Nat) (e13 : IntKind.u64.wrap (IntKind.u64.wrap ((Q1 : Int) * 4294967296) + (Q2 : Int)) = (A : Int))
    (e14 : IntKind.u64.wrap (IntKind.u64.wrap (IntKind.u64.wrap ((n21 : Int) * 4294967296) + (un0 : Int)) - IntKind.u64.wrap ((Q2 : Int) * (y' : Int))) = (B : Int)) (e15 : (B : Int) / 2 ^ s = (C : Int))
    (w : World) :
    Calls Try.prog 89 #[.int .u64 (hi : Int), .int .u64 (lo : Int), .int .u64 (y : Int)] w fun e w' =>
      e = .returned (.tuple #[.int .u64 (A : Int), .int .u64 (C : Int)]) ∧ w = w' := by
  have hz := lz64_any y hyW w
  rw [← hs] at hz
  have HZ := mkHid hz
  clear hz hs
  have t1 : ((y : Int) == 0) = false := beq_f (n := 0) (by omega)
  have t2 : decide (y ≤ hi) = false := decide_eq_false (by omega)
  have t3 : ((hi : Int) == 0) = false := beq_f (n := 0) (by omega)
  go_enter Try.func89, Try.ntmps89
  go_upto_block 0 with (go_at_call 63; refine HZ.out.mono ?_; rintro e w' ⟨rfl, rfl⟩)
  go_cut [15] (fun v wc => v = .int .u64 Q1 ∧ w = wc)
  case first =>
    go_wp2
    go_loop [15, 16] (fun v r => ∃ q rr : Nat, v = .int .u64 q ∧ r = .int .u64 rr ∧ Half yn1 yn0 un32 un1 q rr) (fun v _ => (intOf v).toNat)
    case atStart => exact ⟨_, _, rfl, rfl, S1⟩
    case round =>
      obtain ⟨q, rr, rfl, rfl, H⟩ := hrel
      have hq := H.le
      have hr := H.r
      have hy1 := H.y1'
      by_cases hb : 4294967296 ≤ q
      · have t1 : decide ((4294967296 : Int) ≤ (q : Int)) = true := decide_eq_true (by omega)
        obtain ⟨q', hq'⟩ : ∃ q', q = q' + 1 := ⟨q - 1, by omega⟩
        have e1 : IntKind.u64.wrap ((q : Int) - 1) = (q' : Int) := by rw [IntKind.wrap_u64]; omega
        have H' := H
        rw [hq'] at H'
        have hb' := mkHid hb
        rw [hq'] at hb'
        have HQ' := mkHid hq'
        clear hq'
        obtain ⟨rs, hrs⟩ : ∃ rs, rs = rr + yn1 := ⟨_, rfl⟩
        have e2 : IntKind.u64.wrap ((rr : Int) + (yn1 : Int)) = (rs : Int) := by rw [IntKind.wrap_u64]; omega
        have HRS := mkHid hrs
        clear hrs
        by_cases hbr : 4294967296 ≤ rs
        · have t2 : decide ((4294967296 : Int) ≤ (rs : Int)) = true := decide_eq_true (by omega)
          have hfin := mkHid (H'.brk (.inl hb'.out) (by rw [← HRS.out]; exact hbr))
          go_wp2
          go_meet
          case rel => exact ⟨by rw [HQ1.out, ← hfin.out], rfl⟩
        · have t2 : decide ((4294967296 : Int) ≤ (rs : Int)) = false := decide_eq_false (by omega)
          have hgo := H'.go (.inl hb'.out) (by rw [← HRS.out]; omega)
          rw [← HRS.out] at hgo
          go_wp2
          go_round
          case rel => exact ⟨q', rs, rfl, rfl, hgo⟩
          case measure => simp [intOf]; have := HQ'.out; omega
      · have t1 : decide ((4294967296 : Int) ≤ (q : Int)) = false := decide_eq_false (by omega)
        obtain ⟨m1, hm1⟩ : ∃ m, m = q * yn0 := ⟨_, rfl⟩
        obtain ⟨m3, hm3⟩ : ∃ m, m = 4294967296 * rr + un1 := ⟨_, rfl⟩
        have hm1W : m1 < 18446744073709551616 := by
          have : q * yn0 ≤ 4294967295 * 4294967295 := Nat.mul_le_mul (by omega) (by have := H.y0; omega)
          omega
        have hun := H.un
        have e1 : IntKind.u64.wrap ((q : Int) * (yn0 : Int)) = (m1 : Int) := by rw [IntKind.wrap_u64, hm1, Int.natCast_mul, Int.emod_eq_of_lt (by rw [← Int.natCast_mul]; omega) (by rw [← Int.natCast_mul]; omega)]
        have HM1 := mkHid hm1
        have HM3 := mkHid hm3
        clear hm1 hm3 hm1W
        by_cases hc : m3 < m1
        · have t3 : decide (4294967296 * (rr : Int) + (un1 : Int) < (m1 : Int)) = true := decide_eq_true (by have := HM3.out; omega)
          have hc' : 4294967296 * rr + un1 < q * yn0 := by rw [← HM1.out, ← HM3.out]; exact hc
          obtain ⟨q', hq'⟩ : ∃ q', q = q' + 1 := ⟨q - 1, by have := Nat.pos_of_ne_zero (n := q) (by intro h; rw [h, Nat.zero_mul] at hc'; omega); omega⟩
          have e4 : IntKind.u64.wrap ((q : Int) - 1) = (q' : Int) := by rw [IntKind.wrap_u64]; omega
          have H' := H
          rw [hq'] at H' hc'
          have HQ' := mkHid hq'
          clear hq'
          obtain ⟨rs, hrs⟩ : ∃ rs, rs = rr + yn1 := ⟨_, rfl⟩
          have e5 : IntKind.u64.wrap ((rr : Int) + (yn1 : Int)) = (rs : Int) := by rw [IntKind.wrap_u64]; omega
          have HRS := mkHid hrs
          have HC := mkHid hc'
          clear hrs hc'
          by_cases hbr : 4294967296 ≤ rs
          · have t2 : decide ((4294967296 : Int) ≤ (rs : Int)) = true := decide_eq_true (by omega)
            have hfin := mkHid (H'.brk (.inr HC.out) (by rw [← HRS.out]; exact hbr))
            go_wp2
            go_meet
            case rel => exact ⟨by rw [HQ1.out, ← hfin.out], rfl⟩
          · have t2 : decide ((4294967296 : Int) ≤ (rs : Int)) = false := decide_eq_false (by omega)
            have hgo := H'.go (.inr HC.out) (by rw [← HRS.out]; omega)
            rw [← HRS.out] at hgo
            go_wp2
            go_round
            case rel => exact ⟨q', rs, rfl, rfl, hgo⟩
            case measure => simp [intOf]; have := HQ'.out; omega
        · have t3 : decide (4294967296 * (rr : Int) + (un1 : Int) < (m1 : Int)) = false := decide_eq_false (by have := HM3.out; omega)
          have hfin := mkHid (H.stop (by rw [← HM1.out, ← HM3.out]; omega))
          go_wp2
          go_meet
          case rel => exact ⟨by rw [HQ1.out, ← hfin.out], rfl⟩
  case rest =>
    obtain ⟨rfl, rfl⟩ := hcut
    go_upto_block 2 with (fail)
    go_cut [18] (fun v wc => v = .int .u64 Q2 ∧ w = wc)
    case first =>
      go_wp2
      go_loop [18, 16] (fun v r => ∃ q rr : Nat, v = .int .u64 q ∧ r = .int .u64 rr ∧ Half yn1 yn0 n21 un0 q rr) (fun v _ => (intOf v).toNat)
      case atStart => exact ⟨_, _, rfl, rfl, S2⟩
      case round =>
        obtain ⟨q, rr, rfl, rfl, H⟩ := hrel
        have hq := H.le
        have hr := H.r
        have hy1 := H.y1'
        by_cases hb : 4294967296 ≤ q
        · have t1 : decide ((4294967296 : Int) ≤ (q : Int)) = true := decide_eq_true (by omega)
          obtain ⟨q', hq'⟩ : ∃ q', q = q' + 1 := ⟨q - 1, by omega⟩
          have e1 : IntKind.u64.wrap ((q : Int) - 1) = (q' : Int) := by rw [IntKind.wrap_u64]; omega
          have H' := H
          rw [hq'] at H'
          have hb' := mkHid hb
          rw [hq'] at hb'
          have HQ' := mkHid hq'
          clear hq'
          obtain ⟨rs, hrs⟩ : ∃ rs, rs = rr + yn1 := ⟨_, rfl⟩
          have e2 : IntKind.u64.wrap ((rr : Int) + (yn1 : Int)) = (rs : Int) := by rw [IntKind.wrap_u64]; omega
          have HRS := mkHid hrs
          clear hrs
          by_cases hbr : 4294967296 ≤ rs
          · have t2 : decide ((4294967296 : Int) ≤ (rs : Int)) = true := decide_eq_true (by omega)
            have hfin := mkHid (H'.brk (.inl hb'.out) (by rw [← HRS.out]; exact hbr))
            go_wp2
            go_meet
            case rel => exact ⟨by rw [HQ2.out, ← hfin.out], rfl⟩
          · have t2 : decide ((4294967296 : Int) ≤ (rs : Int)) = false := decide_eq_false (by omega)
            have hgo := H'.go (.inl hb'.out) (by rw [← HRS.out]; omega)
            rw [← HRS.out] at hgo
            go_wp2
            go_round
            case rel => exact ⟨q', rs, rfl, rfl, hgo⟩
            case measure => simp [intOf]; have := HQ'.out; omega
        · have t1 : decide ((4294967296 : Int) ≤ (q : Int)) = false := decide_eq_false (by omega)
          obtain ⟨m1, hm1⟩ : ∃ m, m = q * yn0 := ⟨_, rfl⟩
          obtain ⟨m3, hm3⟩ : ∃ m, m = 4294967296 * rr + un0 := ⟨_, rfl⟩
          have hm1W : m1 < 18446744073709551616 := by
            have : q * yn0 ≤ 4294967295 * 4294967295 := Nat.mul_le_mul (by omega) (by have := H.y0; omega)
            omega
          have hun := H.un
          have e1 : IntKind.u64.wrap ((q : Int) * (yn0 : Int)) = (m1 : Int) := by rw [IntKind.wrap_u64, hm1, Int.natCast_mul, Int.emod_eq_of_lt (by rw [← Int.natCast_mul]; omega) (by rw [← Int.natCast_mul]; omega)]
          have HM1 := mkHid hm1
          have HM3 := mkHid hm3
          clear hm1 hm3 hm1W
          by_cases hc : m3 < m1
          · have t3 : decide (4294967296 * (rr : Int) + (un0 : Int) < (m1 : Int)) = true := decide_eq_true (by have := HM3.out; omega)
            have hc' : 4294967296 * rr + un0 < q * yn0 := by rw [← HM1.out, ← HM3.out]; exact hc
            obtain ⟨q', hq'⟩ : ∃ q', q = q' + 1 := ⟨q - 1, by have := Nat.pos_of_ne_zero (n := q) (by intro h; rw [h, Nat.zero_mul] at hc'; omega); omega⟩
            have e4 : IntKind.u64.wrap ((q : Int) - 1) = (q' : Int) := by rw [IntKind.wrap_u64]; omega
            have H' := H
            rw [hq'] at H' hc'
            have HQ' := mkHid hq'
            clear hq'
            obtain ⟨rs, hrs⟩ : ∃ rs, rs = rr + yn1 := ⟨_, rfl⟩
            have e5 : IntKind.u64.wrap ((rr : Int) + (yn1 : Int)) = (rs : Int) := by rw [IntKind.wrap_u64]; omega
            have HRS := mkHid hrs
            have HC := mkHid hc'
            clear hrs hc'
            by_cases hbr : 4294967296 ≤ rs
            · have t2 : decide ((4294967296 : Int) ≤ (rs : Int)) = true := decide_eq_true (by omega)
              have hfin := mkHid (H'.brk (.inr HC.out) (by rw [← HRS.out]; exact hbr))
              go_wp2
              go_meet
              case rel => exact ⟨by rw [HQ2.out, ← hfin.out], rfl⟩
            · have t2 : decide ((4294967296 : Int) ≤ (rs : Int)) = false := decide_eq_false (by omega)
              have hgo := H'.go (.inr HC.out) (by rw [← HRS.out]; omega)
              rw [← HRS.out] at hgo
              go_wp2
              go_round
              case rel => exact ⟨q', rs, rfl, rfl, hgo⟩
              case measure => simp [intOf]; have := HQ'.out; omega
          · have t3 : decide (4294967296 * (rr : Int) + (un0 : Int) < (m1 : Int)) = false := decide_eq_false (by have := HM3.out; omega)
            have hfin := mkHid (H.stop (by rw [← HM1.out, ← HM3.out]; omega))
            go_wp2
            go_meet
            case rel => exact ⟨by rw [HQ2.out, ← hfin.out], rfl⟩
    case rest =>
      obtain ⟨rfl, rfl⟩ := hcut
      go_wp2
      go_ret2
      exact ⟨rfl, rfl⟩

end Go.Proofs.Ytaeamlldocbeeaa
