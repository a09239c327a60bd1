/- DivA: Div, Div2. -/
import Derived.Test.YtaeamlldocbeeaaDoorLimbB
import Derived.Test.YtaeamlldocbeeaaDoorNumA

/- math/bits: Div64. -/

namespace Go.Proofs.YtaeamlldocbeeaaDoor
open Go.RowKit Num

theorem div64_big (hi lo y : Nat) (h0 : 0 < hi) (hy : hi < y) (hyW : y < 18446744073709551616) (s y' yn1 yn0 un32 un10 un1 un0 : Nat) (hs : s = 64 - bitLen y)
    (hs64 : s < 64)
    (f1 : IntKind.u64.wrap ((y : Int) * 2 ^ s) = (y' : Int)) (f2 : (y' : Int) / 4294967296 = (yn1 : Int)) (f3 : bits .and .u64 (y' : Int) 4294967295 = (yn0 : Int))
    (f4 : bits .or .u64 (IntKind.u64.wrap ((hi : Int) * 2 ^ s)) ((lo : Int) / 2 ^ (64 - s)) = (un32 : Int)) (f5 : IntKind.u64.wrap ((lo : Int) * 2 ^ s) = (un10 : Int))
    (f6 : (un10 : Int) / 4294967296 = (un1 : Int)) (f7 : bits .and .u64 (un10 : Int) 4294967295 = (un0 : Int)) (hn1 : 0 < yn1)
    (q0 r0 : Nat) (e8 : IntKind.u64.wrap ((un32 : Int) / (yn1 : Int)) = (q0 : Int)) (e9 : IntKind.u64.wrap ((un32 : Int) - IntKind.u64.wrap ((q0 : Int) * (yn1 : Int))) = (r0 : Int)) (S1 : Half yn1 yn0 un32 un1 q0 r0)
    (Q1 : Nat) (HQ1 : Hid (Q1 = (un32 * 4294967296 + un1) / (yn1 * 4294967296 + yn0)))
    (n21 : Nat) (e10 : IntKind.u64.wrap (IntKind.u64.wrap (IntKind.u64.wrap ((un32 : Int) * 4294967296) + (un1 : Int)) - IntKind.u64.wrap ((Q1 : Int) * (y' : Int))) = (n21 : Int))
    (p0 s0 : Nat) (e11 : IntKind.u64.wrap ((n21 : Int) / (yn1 : Int)) = (p0 : Int)) (e12 : IntKind.u64.wrap ((n21 : Int) - IntKind.u64.wrap ((p0 : Int) * (yn1 : Int))) = (s0 : Int)) (S2 : Half yn1 yn0 n21 un0 p0 s0)
    (Q2 : Nat) (HQ2 : Hid (Q2 = (n21 * 4294967296 + un0) / (yn1 * 4294967296 + yn0)))
    (A B C : Nat) (e13 : IntKind.u64.wrap (IntKind.u64.wrap ((Q1 : Int) * 4294967296) + (Q2 : Int)) = (A : Int))
    (e14 : IntKind.u64.wrap (IntKind.u64.wrap (IntKind.u64.wrap ((n21 : Int) * 4294967296) + (un0 : Int)) - IntKind.u64.wrap ((Q2 : Int) * (y' : Int))) = (B : Int)) (e15 : (B : Int) / 2 ^ s = (C : Int))
    (w : World) :
    Calls Tryd.prog 58 #[.int .u64 (hi : Int), .int .u64 (lo : Int), .int .u64 (y : Int)] w fun e w' =>
      e = .returned (.tuple #[.int .u64 (A : Int), .int .u64 (C : Int)]) ∧ w = w' := by
  have hz := lz64_any y hyW w
  rw [← hs] at hz
  have HZ := mkHid hz
  clear hz hs
  have t1 : ((y : Int) == 0) = false := beq_f (n := 0) (by omega)
  have t2 : decide (y ≤ hi) = false := decide_eq_false (by omega)
  have t3 : ((hi : Int) == 0) = false := beq_f (n := 0) (by omega)
  go_enter Tryd.func58, Tryd.ntmps58
  go_upto_block 0 with (go_at_call 44; refine HZ.out.mono ?_; rintro e w' ⟨rfl, rfl⟩)
  go_cut [15] (fun v wc => v = .int .u64 Q1 ∧ w = wc)
  case first =>
    go_wp2
    go_loop [15, 16] (fun v r => ∃ q rr : Nat, v = .int .u64 q ∧ r = .int .u64 rr ∧ Half yn1 yn0 un32 un1 q rr) (fun v _ => (intOf v).toNat)
    case atStart => exact ⟨_, _, rfl, rfl, S1⟩
    case round =>
      obtain ⟨q, rr, rfl, rfl, H⟩ := hrel
      have hq := H.le
      have hr := H.r
      have hy1 := H.y1'
      by_cases hb : 4294967296 ≤ q
      · have t1 : decide ((4294967296 : Int) ≤ (q : Int)) = true := decide_eq_true (by omega)
        obtain ⟨q', hq'⟩ : ∃ q', q = q' + 1 := ⟨q - 1, by omega⟩
        have e1 : IntKind.u64.wrap ((q : Int) - 1) = (q' : Int) := by rw [IntKind.wrap_u64]; omega
        have H' := H
        rw [hq'] at H'
        have hb' := mkHid hb
        rw [hq'] at hb'
        have HQ' := mkHid hq'
        clear hq'
        obtain ⟨rs, hrs⟩ : ∃ rs, rs = rr + yn1 := ⟨_, rfl⟩
        have e2 : IntKind.u64.wrap ((rr : Int) + (yn1 : Int)) = (rs : Int) := by rw [IntKind.wrap_u64]; omega
        have HRS := mkHid hrs
        clear hrs
        by_cases hbr : 4294967296 ≤ rs
        · have t2 : decide ((4294967296 : Int) ≤ (rs : Int)) = true := decide_eq_true (by omega)
          have hfin := mkHid (H'.brk (.inl hb'.out) (by rw [← HRS.out]; exact hbr))
          go_wp2
          go_meet
          case rel => exact ⟨by rw [HQ1.out, ← hfin.out], rfl⟩
        · have t2 : decide ((4294967296 : Int) ≤ (rs : Int)) = false := decide_eq_false (by omega)
          have hgo := H'.go (.inl hb'.out) (by rw [← HRS.out]; omega)
          rw [← HRS.out] at hgo
          go_wp2
          go_round
          case rel => exact ⟨q', rs, rfl, rfl, hgo⟩
          case measure => simp [intOf]; have := HQ'.out; omega
      · have t1 : decide ((4294967296 : Int) ≤ (q : Int)) = false := decide_eq_false (by omega)
        obtain ⟨m1, hm1⟩ : ∃ m, m = q * yn0 := ⟨_, rfl⟩
        obtain ⟨m3, hm3⟩ : ∃ m, m = 4294967296 * rr + un1 := ⟨_, rfl⟩
        have hm1W : m1 < 18446744073709551616 := by
          have : q * yn0 ≤ 4294967295 * 4294967295 := Nat.mul_le_mul (by omega) (by have := H.y0; omega)
          omega
        have hun := H.un
        have e1 : IntKind.u64.wrap ((q : Int) * (yn0 : Int)) = (m1 : Int) := by rw [IntKind.wrap_u64, hm1, Int.natCast_mul, Int.emod_eq_of_lt (by rw [← Int.natCast_mul]; omega) (by rw [← Int.natCast_mul]; omega)]
        have HM1 := mkHid hm1
        have HM3 := mkHid hm3
        clear hm1 hm3 hm1W
        by_cases hc : m3 < m1
        · have t3 : decide (4294967296 * (rr : Int) + (un1 : Int) < (m1 : Int)) = true := decide_eq_true (by have := HM3.out; omega)
          have hc' : 4294967296 * rr + un1 < q * yn0 := by rw [← HM1.out, ← HM3.out]; exact hc
          obtain ⟨q', hq'⟩ : ∃ q', q = q' + 1 := ⟨q - 1, by have := Nat.pos_of_ne_zero (n := q) (by intro h; rw [h, Nat.zero_mul] at hc'; omega); omega⟩
          have e4 : IntKind.u64.wrap ((q : Int) - 1) = (q' : Int) := by rw [IntKind.wrap_u64]; omega
          have H' := H
          rw [hq'] at H' hc'
          have HQ' := mkHid hq'
          clear hq'
          obtain ⟨rs, hrs⟩ : ∃ rs, rs = rr + yn1 := ⟨_, rfl⟩
          have e5 : IntKind.u64.wrap ((rr : Int) + (yn1 : Int)) = (rs : Int) := by rw [IntKind.wrap_u64]; omega
          have HRS := mkHid hrs
          have HC := mkHid hc'
          clear hrs hc'
          by_cases hbr : 4294967296 ≤ rs
          · have t2 : decide ((4294967296 : Int) ≤ (rs : Int)) = true := decide_eq_true (by omega)
            have hfin := mkHid (H'.brk (.inr HC.out) (by rw [← HRS.out]; exact hbr))
            go_wp2
            go_meet
            case rel => exact ⟨by rw [HQ1.out, ← hfin.out], rfl⟩
          · have t2 : decide ((4294967296 : Int) ≤ (rs : Int)) = false := decide_eq_false (by omega)
            have hgo := H'.go (.inr HC.out) (by rw [← HRS.out]; omega)
            rw [← HRS.out] at hgo
            go_wp2
            go_round
            case rel => exact ⟨q', rs, rfl, rfl, hgo⟩
            case measure => simp [intOf]; have := HQ'.out; omega
        · have t3 : decide (4294967296 * (rr : Int) + (un1 : Int) < (m1 : Int)) = false := decide_eq_false (by have := HM3.out; omega)
          have hfin := mkHid (H.stop (by rw [← HM1.out, ← HM3.out]; omega))
          go_wp2
          go_meet
          case rel => exact ⟨by rw [HQ1.out, ← hfin.out], rfl⟩
  case rest =>
    obtain ⟨rfl, rfl⟩ := hcut
    go_upto_block 2 with (fail)
    go_cut [18] (fun v wc => v = .int .u64 Q2 ∧ w = wc)
    case first =>
      go_wp2
      go_loop [18, 16] (fun v r => ∃ q rr : Nat, v = .int .u64 q ∧ r = .int .u64 rr ∧ Half yn1 yn0 n21 un0 q rr) (fun v _ => (intOf v).toNat)
      case atStart => exact ⟨_, _, rfl, rfl, S2⟩
      case round =>
        obtain ⟨q, rr, rfl, rfl, H⟩ := hrel
        have hq := H.le
        have hr := H.r
        have hy1 := H.y1'
        by_cases hb : 4294967296 ≤ q
        · have t1 : decide ((4294967296 : Int) ≤ (q : Int)) = true := decide_eq_true (by omega)
          obtain ⟨q', hq'⟩ : ∃ q', q = q' + 1 := ⟨q - 1, by omega⟩
          have e1 : IntKind.u64.wrap ((q : Int) - 1) = (q' : Int) := by rw [IntKind.wrap_u64]; omega
          have H' := H
          rw [hq'] at H'
          have hb' := mkHid hb
          rw [hq'] at hb'
          have HQ' := mkHid hq'
          clear hq'
          obtain ⟨rs, hrs⟩ : ∃ rs, rs = rr + yn1 := ⟨_, rfl⟩
          have e2 : IntKind.u64.wrap ((rr : Int) + (yn1 : Int)) = (rs : Int) := by rw [IntKind.wrap_u64]; omega
          have HRS := mkHid hrs
          clear hrs
          by_cases hbr : 4294967296 ≤ rs
          · have t2 : decide ((4294967296 : Int) ≤ (rs : Int)) = true := decide_eq_true (by omega)
            have hfin := mkHid (H'.brk (.inl hb'.out) (by rw [← HRS.out]; exact hbr))
            go_wp2
            go_meet
            case rel => exact ⟨by rw [HQ2.out, ← hfin.out], rfl⟩
          · have t2 : decide ((4294967296 : Int) ≤ (rs : Int)) = false := decide_eq_false (by omega)
            have hgo := H'.go (.inl hb'.out) (by rw [← HRS.out]; omega)
            rw [← HRS.out] at hgo
            go_wp2
            go_round
            case rel => exact ⟨q', rs, rfl, rfl, hgo⟩
            case measure => simp [intOf]; have := HQ'.out; omega
        · have t1 : decide ((4294967296 : Int) ≤ (q : Int)) = false := decide_eq_false (by omega)
          obtain ⟨m1, hm1⟩ : ∃ m, m = q * yn0 := ⟨_, rfl⟩
          obtain ⟨m3, hm3⟩ : ∃ m, m = 4294967296 * rr + un0 := ⟨_, rfl⟩
          have hm1W : m1 < 18446744073709551616 := by
            have : q * yn0 ≤ 4294967295 * 4294967295 := Nat.mul_le_mul (by omega) (by have := H.y0; omega)
            omega
          have hun := H.un
          have e1 : IntKind.u64.wrap ((q : Int) * (yn0 : Int)) = (m1 : Int) := by rw [IntKind.wrap_u64, hm1, Int.natCast_mul, Int.emod_eq_of_lt (by rw [← Int.natCast_mul]; omega) (by rw [← Int.natCast_mul]; omega)]
          have HM1 := mkHid hm1
          have HM3 := mkHid hm3
          clear hm1 hm3 hm1W
          by_cases hc : m3 < m1
          · have t3 : decide (4294967296 * (rr : Int) + (un0 : Int) < (m1 : Int)) = true := decide_eq_true (by have := HM3.out; omega)
            have hc' : 4294967296 * rr + un0 < q * yn0 := by rw [← HM1.out, ← HM3.out]; exact hc
            obtain ⟨q', hq'⟩ : ∃ q', q = q' + 1 := ⟨q - 1, by have := Nat.pos_of_ne_zero (n := q) (by intro h; rw [h, Nat.zero_mul] at hc'; omega); omega⟩
            have e4 : IntKind.u64.wrap ((q : Int) - 1) = (q' : Int) := by rw [IntKind.wrap_u64]; omega
            have H' := H
            rw [hq'] at H' hc'
            have HQ' := mkHid hq'
            clear hq'
            obtain ⟨rs, hrs⟩ : ∃ rs, rs = rr + yn1 := ⟨_, rfl⟩
            have e5 : IntKind.u64.wrap ((rr : Int) + (yn1 : Int)) = (rs : Int) := by rw [IntKind.wrap_u64]; omega
            have HRS := mkHid hrs
            have HC := mkHid hc'
            clear hrs hc'
            by_cases hbr : 4294967296 ≤ rs
            · have t2 : decide ((4294967296 : Int) ≤ (rs : Int)) = true := decide_eq_true (by omega)
              have hfin := mkHid (H'.brk (.inr HC.out) (by rw [← HRS.out]; exact hbr))
              go_wp2
              go_meet
              case rel => exact ⟨by rw [HQ2.out, ← hfin.out], rfl⟩
            · have t2 : decide ((4294967296 : Int) ≤ (rs : Int)) = false := decide_eq_false (by omega)
              have hgo := H'.go (.inr HC.out) (by rw [← HRS.out]; omega)
              rw [← HRS.out] at hgo
              go_wp2
              go_round
              case rel => exact ⟨q', rs, rfl, rfl, hgo⟩
              case measure => simp [intOf]; have := HQ'.out; omega
          · have t3 : decide (4294967296 * (rr : Int) + (un0 : Int) < (m1 : Int)) = false := decide_eq_false (by have := HM3.out; omega)
            have hfin := mkHid (H.stop (by rw [← HM1.out, ← HM3.out]; omega))
            go_wp2
            go_meet
            case rel => exact ⟨by rw [HQ2.out, ← hfin.out], rfl⟩
    case rest =>
      obtain ⟨rfl, rfl⟩ := hcut
      go_wp2
      go_ret2
      exact ⟨rfl, rfl⟩

end Go.Proofs.YtaeamlldocbeeaaDoor

/- math/bits: Div64, the arithmetic behind the walk. -/

namespace Go.Proofs.YtaeamlldocbeeaaDoor
open Go.RowKit Num

theorem pow_bitLen (y : Nat) (h0 : 0 < y) (hy : y < 18446744073709551616) : 2 ^ 63 ≤ y * 2 ^ (64 - bitLen y) ∧ y * 2 ^ (64 - bitLen y) < 2 ^ 64 ∧ 64 - bitLen y < 64 := by
  have h1 := (bitLen_le y 64).2 (by omega)
  have h2 := (lt_bitLen y (bitLen y - 1)).1 (by have := (lt_bitLen y 0).2 (by rw [Nat.pow_zero]; omega); omega)
  have h3 := (bitLen_le y (bitLen y)).1 (Nat.le_refl _)
  have h4 := (lt_bitLen y 0).2 (by rw [Nat.pow_zero]; omega)
  refine ⟨?_, ?_, by omega⟩
  · have := Nat.mul_le_mul_right (2 ^ (64 - bitLen y)) h2
    rw [← Nat.pow_add, show bitLen y - 1 + (64 - bitLen y) = 63 by omega] at this
    exact this
  · have := Nat.mul_lt_mul_of_pos_right h3 (Nat.two_pow_pos (64 - bitLen y))
    rw [← Nat.pow_add, show bitLen y + (64 - bitLen y) = 64 by omega] at this
    exact this

theorem wrap_mod (z : Int) (n : Nat) (h : z = (n : Int)) (m : Nat) (hm : m = n % 18446744073709551616) : IntKind.u64.wrap z = (m : Int) := by
  rw [h, hm, IntKind.wrap_u64]; omega

/-- differences that come out below the base, whatever wrapped on the way -/
theorem wrap_diff (a b c : Nat) (r : Nat) (h : a * 4294967296 + b = c + r) (hr : r < 18446744073709551616) :
    IntKind.u64.wrap (IntKind.u64.wrap (IntKind.u64.wrap ((a : Int) * 4294967296) + (b : Int)) - IntKind.u64.wrap (c : Int)) = (r : Int) := by
  simp only [IntKind.wrap_u64]
  omega

theorem div_half (yn1 yn0 y' N1 Q R : Nat) (hy : y' = yn1 * 4294967296 + yn0) (hQ : Q = N1 / (yn1 * 4294967296 + yn0)) (hR : R = N1 % y') (h0 : 0 < y') : N1 = Q * y' + R ∧ R < y' := by
  rw [← hy] at hQ
  subst hQ; subst hR
  exact ⟨(Nat.div_add_mod' N1 y').symm, Nat.mod_lt _ h0⟩

theorem div_comb' (V u ul u1 u0 A B n rem : Nat) (h1 : ul = u1 * V + u0) (h2 : u * V + u1 = A + n) (h3 : n * V + u0 = B + rem) : u * (V * V) + ul = A * V + B + rem := by
  rw [h1, ← Nat.mul_assoc, ← Nat.add_assoc, ← Nat.add_mul, h2, Nat.add_mul, Nat.add_assoc, h3, Nat.add_assoc]

theorem div_comb (u ul u1 u0 A B n rem : Nat) (h1 : ul = u1 * 4294967296 + u0) (h2 : u * 4294967296 + u1 = A + n) (h3 : n * 4294967296 + u0 = B + rem) : u * 18446744073709551616 + ul = A * 4294967296 + B + rem :=
  div_comb' _ _ _ _ _ _ _ _ _ h1 h2 h3

theorem wrap_div (a b : Nat) (h : a / b < 18446744073709551616) : IntKind.u64.wrap ((a : Int) / (b : Int)) = ((a / b : Nat) : Int) := by
  rw [← Int.natCast_ediv]
  exact wrap_mod _ _ rfl _ (Nat.mod_eq_of_lt h).symm

theorem wrap_rest (a q b r : Nat) (e : q * b + r = a) (ha : a < 18446744073709551616) : IntKind.u64.wrap ((a : Int) - IntKind.u64.wrap ((q : Int) * (b : Int))) = (r : Int) := by
  rw [← Int.natCast_mul]
  simp only [IntKind.wrap_u64]
  omega

theorem div_mod_of (X y q r : Nat) (h : X = q * y + r) (hr : r < y) : X / y = q ∧ X % y = r := by
  subst h
  constructor
  · rw [Nat.mul_comm, Nat.mul_add_div (by omega), Nat.div_eq_of_lt hr, Nat.add_zero]
  · rw [Nat.mul_comm, Nat.mul_add_mod, Nat.mod_eq_of_lt hr]

theorem div64_1 (hi lo y : Nat) (h0 : 0 < hi) (hy : hi < y) (hyW : y < 18446744073709551616) (hl : lo < 18446744073709551616) (q r : Nat) (hq : q = (hi * 18446744073709551616 + lo) / y) (hr : r = (hi * 18446744073709551616 + lo) % y) (w : World) :
    Calls Tryd.prog 58 #[.int .u64 (hi : Int), .int .u64 (lo : Int), .int .u64 (y : Int)] w fun e w' =>
      e = .returned (.tuple #[.int .u64 (q : Int), .int .u64 (r : Int)]) ∧ w = w' := by
  obtain ⟨s, hs⟩ : ∃ s, s = 64 - bitLen y := ⟨_, rfl⟩
  obtain ⟨b1, b2, b3⟩ := pow_bitLen y (by omega) hyW
  rw [← hs] at b1 b2 b3
  have hps := Nat.two_pow_pos s
  -- the parts
  have g1 : lo * 2 ^ s / 18446744073709551616 = lo / 2 ^ (64 - s) := shl_div lo s (by omega)
  have g2 : lo / 2 ^ (64 - s) < 2 ^ s := by
    rw [← g1, Nat.div_lt_iff_lt_mul (by omega), Nat.mul_comm]
    exact Nat.mul_lt_mul_of_pos_left hl hps
  have g3 : (hi + 1) * 2 ^ s ≤ y * 2 ^ s := Nat.mul_le_mul_right _ hy
  rw [Nat.add_mul, Nat.one_mul] at g3
  have g4 : lo * 2 ^ s % 18446744073709551616 + 18446744073709551616 * (lo / 2 ^ (64 - s)) = lo * 2 ^ s := by rw [← g1]; exact Nat.mod_add_div _ _
  obtain ⟨y', hy'⟩ : ∃ y', y' = y * 2 ^ s := ⟨_, rfl⟩
  obtain ⟨hh, hhe⟩ : ∃ hh, hh = hi * 2 ^ s := ⟨_, rfl⟩
  obtain ⟨lh, hlh⟩ : ∃ lh, lh = lo / 2 ^ (64 - s) := ⟨_, rfl⟩
  obtain ⟨ul, hul⟩ : ∃ ul, ul = lo * 2 ^ s % 18446744073709551616 := ⟨_, rfl⟩
  have f4' : hh ||| lh = hh + lh := by
    rw [Nat.or_comm, hhe, hlh, Nat.mul_comm hi, or_low _ _ _ g2, Nat.add_comm]
  rw [← hy'] at b1 b2 g3
  rw [← hhe] at g3
  rw [← hlh] at g2 g4
  rw [← hul] at g4
  have hulW : ul < 18446744073709551616 := by rw [hul]; exact Nat.mod_lt _ (by omega)
  have F1 : IntKind.u64.wrap ((y : Int) * 2 ^ s) = (y' : Int) := wrap_mod _ y' (by rw [hy', Int.natCast_mul, Int.natCast_pow]; rfl) _ (by omega)
  have F4 : bits .or .u64 (IntKind.u64.wrap ((hi : Int) * 2 ^ s)) ((lo : Int) / 2 ^ (64 - s)) = ((hh + lh : Nat) : Int) := by
    rw [wrap_mod _ hh (by rw [hhe, Int.natCast_mul, Int.natCast_pow]; rfl) hh (by omega)]
    have e : (lo : Int) / 2 ^ (64 - s) = (lh : Int) := by rw [hlh, Int.natCast_ediv, Int.natCast_pow]; rfl
    rw [e, bits_or_u64_nat _ _ (by omega) (by omega), f4']
  have F5 : IntKind.u64.wrap ((lo : Int) * 2 ^ s) = (ul : Int) := wrap_mod _ (lo * 2 ^ s) (by rw [Int.natCast_mul, Int.natCast_pow]; rfl) _ hul
  -- all that follows speaks of these alone
  have hX : (hi * 18446744073709551616 + lo) * 2 ^ s = (hh + lh) * 18446744073709551616 + ul := by
    rw [Nat.add_mul, Nat.mul_right_comm, ← hhe, ← g4]; omega
  have hu32 : hh + lh < y' := by omega
  obtain ⟨un32, hun32⟩ : ∃ u, u = hh + lh := ⟨_, rfl⟩
  rw [← hun32] at F4 hX hu32
  clear g1 g2 g3 g4 hhe hlh hul f4' hun32
  obtain ⟨yn1, hyn1⟩ : ∃ a, a = y' / 4294967296 := ⟨_, rfl⟩
  obtain ⟨yn0, hyn0⟩ : ∃ a, a = y' % 4294967296 := ⟨_, rfl⟩
  obtain ⟨un1, hun1⟩ : ∃ a, a = ul / 4294967296 := ⟨_, rfl⟩
  obtain ⟨un0, hun0⟩ : ∃ a, a = ul % 4294967296 := ⟨_, rfl⟩
  have hhalf : y' = yn1 * 4294967296 + yn0 := by omega
  have hulh : ul = un1 * 4294967296 + un0 := by omega
  have S1 : Half yn1 yn0 un32 un1 (un32 / yn1) (un32 % yn1) := Half.start (by omega) (by omega) (by omega) (by omega) (by omega)
  obtain ⟨Q1, hQ1⟩ : ∃ Q1, Q1 = (un32 * 4294967296 + un1) / (yn1 * 4294967296 + yn0) := ⟨_, rfl⟩
  obtain ⟨n21, hn21⟩ : ∃ n21, n21 = (un32 * 4294967296 + un1) % y' := ⟨_, rfl⟩
  obtain ⟨d1, d2⟩ := div_half _ _ y' _ Q1 n21 hhalf hQ1 hn21 (by omega)
  have S2 : Half yn1 yn0 n21 un0 (n21 / yn1) (n21 % yn1) := Half.start (by omega) (by omega) (by omega) (by omega) (by omega)
  obtain ⟨Q2, hQ2⟩ : ∃ Q2, Q2 = (n21 * 4294967296 + un0) / (yn1 * 4294967296 + yn0) := ⟨_, rfl⟩
  obtain ⟨rem, hrem⟩ : ∃ rem, rem = (n21 * 4294967296 + un0) % y' := ⟨_, rfl⟩
  obtain ⟨d3, d4⟩ := div_half _ _ y' _ Q2 rem hhalf hQ2 hrem (by omega)
  have q1lt : Q1 < 4294967296 := by rw [hQ1]; exact S1.lt
  have q2lt : Q2 < 4294967296 := by rw [hQ2]; exact S2.lt
  have hX2 : (hi * 18446744073709551616 + lo) * 2 ^ s = (Q1 * 4294967296 + Q2) * y' + rem := by
    have e2 : (Q1 * 4294967296 + Q2) * y' = (Q1 * y') * 4294967296 + Q2 * y' := by rw [Nat.add_mul, Nat.mul_right_comm]
    rw [hX, e2]
    exact div_comb _ _ _ _ _ _ _ _ hulh d1 d3
  obtain ⟨m1, m2⟩ := div_mod_of _ _ _ _ hX2 d4
  have hquo : Q1 * 4294967296 + Q2 = q := by rw [← m1, hy', Nat.mul_div_mul_right _ _ hps, hq]
  have hrem2 : rem = r * 2 ^ s := by rw [← m2, hy', Nat.mul_mod_mul_right, hr]
  refine div64_big hi lo y h0 hy hyW s y' yn1 yn0 un32 ul un1 un0 hs b3 F1 (by omega) (by rw [hyn0]; exact and32_nat _ (by omega)) F4 F5 (by omega) (by rw [hun0]; exact and32_nat _ hulW) (by omega)
    (un32 / yn1) (un32 % yn1) (wrap_div _ _ (by have := S1.le; omega)) (wrap_rest _ _ _ _ (Nat.div_add_mod' _ _) (by omega)) S1 Q1 (mkHid hQ1) n21 (by rw [← Int.natCast_mul]; exact wrap_diff _ _ _ _ d1 (by omega))
    (n21 / yn1) (n21 % yn1) (wrap_div _ _ (by have := S2.le; omega)) (wrap_rest _ _ _ _ (Nat.div_add_mod' _ _) (by omega)) S2 Q2 (mkHid hQ2) q rem r ?_ (by rw [← Int.natCast_mul]; exact wrap_diff _ _ _ _ d3 (by omega)) ?_ w
  · rw [← hquo]
    simp only [IntKind.wrap_u64]
    omega
  · rw [hrem2, Int.natCast_mul, Int.natCast_pow]
    exact Int.mul_ediv_cancel _ (by have := Int.pow_pos (n := (2 : Int)) (m := s) (by omega); omega)

theorem div64_0 (lo y : Nat) (h0 : 0 < y) (hyW : y < 18446744073709551616) (hl : lo < 18446744073709551616) (q r : Nat) (hq : q = lo / y) (hr : r = lo % y) (w : World) :
    Calls Tryd.prog 58 #[.int .u64 0, .int .u64 (lo : Int), .int .u64 (y : Int)] w fun e w' =>
      e = .returned (.tuple #[.int .u64 (q : Int), .int .u64 (r : Int)]) ∧ ∃ m, w' = w.drewN m := by
  have t1 : ((y : Int) == 0) = false := beq_f (n := 0) (by omega)
  have e1 : (lo : Int) / (y : Int) = (q : Int) := by rw [hq, Int.natCast_ediv]
  have e2 : (lo : Int) % (y : Int) = (r : Int) := by rw [hr, Int.natCast_emod]
  have hqW : q < 18446744073709551616 := by rw [hq]; exact Nat.lt_of_le_of_lt (Nat.div_le_self _ _) hl
  clear hq hr
  go_enter Tryd.func58, Tryd.ntmps58
  go_wp2
  go_quiet (fail)
  go_wp2
  go_ret2
  exact ⟨ret2 rfl e2, nq, rfl⟩

/-- math/bits.Div64: quotient and remainder of two limbs by one that is above the upper one -/
theorem div64_any (hi lo y : Nat) (hy : hi < y) (hyW : y < 18446744073709551616) (hl : lo < 18446744073709551616) (q r : Nat) (hq : q = (hi * 18446744073709551616 + lo) / y) (hr : r = (hi * 18446744073709551616 + lo) % y) (w : World) :
    Calls Tryd.prog 58 #[.int .u64 (hi : Int), .int .u64 (lo : Int), .int .u64 (y : Int)] w fun e w' =>
      e = .returned (.tuple #[.int .u64 (q : Int), .int .u64 (r : Int)]) ∧ ∃ m, w' = w.drewN m := by
  by_cases h : hi = 0
  · subst h
    exact div64_0 lo y hy hyW hl q r (by rw [hq, Nat.zero_mul, Nat.zero_add]) (by rw [hr, Nat.zero_mul, Nat.zero_add]) w
  · exact (div64_1 hi lo y (by omega) hy hyW hl q r hq hr w).mono fun _ _ ⟨h1, h2⟩ => ⟨h1, 0, by rw [← h2]; rfl⟩

end Go.Proofs.YtaeamlldocbeeaaDoor
