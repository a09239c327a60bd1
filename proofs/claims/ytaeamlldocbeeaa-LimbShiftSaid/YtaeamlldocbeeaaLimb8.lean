/- limb: small, guess. -/
import Derived.Test.YtaeamlldocbeeaaDiv2
import Derived.Test.YtaeamlldocbeeaaNum5
namespace Go.Proofs.Ytaeamlldocbeeaa
open Go.RowKit Num

/-- a slice of its own memory, and a number, are the results -/
def GivesN (k : IntKind) (T : TypeId) (w : World) (x : Nat) (xs : List Nat) (e : Ending) (w' : World) : Prop :=
  ∃ a n c, e = .returned (.tuple #[.slice a n c, .int k (x : Int)]) ∧ Own k T w.heap.size w' a n c xs ∧ Below w.heap.size w w'

theorem small_any {a1 : Option Addr} {n c1 : Nat} {xs : List Nat} {w : World} (h1 : Sl .u64 w a1 n c1 xs) (hd1 : Dg 18446744073709551616 xs) (hn1 : n ≤ 1099511627776) (d : Nat) (hd0 : 0 < d) (hdW : d < 18446744073709551616) :
    Calls Try.prog 61 #[.slice a1 n c1, .int .u64 (d : Int)] w (GivesN .u64 54 w (val 18446744073709551616 xs % d) (dig 18446744073709551616 (val 18446744073709551616 xs / d))) := by
  have hl := mkHid h1.len
  go_enter Try.func61, Try.ntmps61
  go_wp2_with (first
    | (at_make; refine wpList_mk rfl _ _ _ rfl 54 .u64 8 under_nat info_u64 n rfl rfl (by omega) (by omega) (by omega) (by omega) ?_; intro b w2 hB hblk hbel))
  go_loopw [7, 8] (fun rv iv wr => ∃ (j r : Nat) (qs : List Nat), j ≤ n ∧ rv = .int .u64 r ∧ iv = .int .i64 ((j : Int) - 1) ∧ Hid (j + qs.length = n) ∧ Dg 18446744073709551616 qs ∧ r < d ∧
      Hid (val 18446744073709551616 qs = val 18446744073709551616 (xs.drop j) / d ∧ r = val 18446744073709551616 (xs.drop j) % d) ∧ Blk wr b .u64 54 (List.replicate j 0 ++ qs) ∧ Below w.heap.size w wr) (fun _ iv _ => (intOf iv + 1).toNat)
  case atStart =>
    refine ⟨n, 0, [], Nat.le_refl _, rfl, rfl, ?_, Dg.nil, hd0, ?_, by simpa using hblk, hbel⟩
    · show _ = _
      simp
    · show _ ∧ _
      rw [List.drop_of_length_le (by rw [hl.out]; exact Nat.le_refl _)]
      simp [val]
  case round =>
    clear hblk hbel
    obtain ⟨j, r, qs, hj, rfl, rfl, hq, dq, hrd, hv, hblk, hbel⟩ := hrel
    cases j with
    | zero =>
      rw [show ((0 : Nat) : Int) - 1 = -1 from rfl]
      rw [List.replicate_zero, List.nil_append] at hblk
      have hown := Own.ofBlk hblk hB n (by have := hq.out; omega) (by omega)
      have hval : Hid (val 18446744073709551616 qs = val 18446744073709551616 xs / d ∧ r = val 18446744073709551616 xs % d) := hv.out
      go_wp2_with (go_at_call 59; (with_reducible refine (trim_own hown dq).mono ?_); rintro e w' ⟨m', rfl, hm', ho, rfl⟩)
      go_ret2
      refine ⟨some ⟨b, 0, none⟩, m', n, ?_, by rw [← hval.out.1]; exact ho, hbel⟩
      rw [← hval.out.2]; rfl
    | succ j =>
      rw [show ((j + 1 : Nat) : Int) - 1 = (j : Int) by omega]
      obtain ⟨b1, o1, x, rfl, hcx, hx⟩ := (h1.keep hbel).get j (by omega)
      have hxW : x < 18446744073709551616 := by obtain ⟨h, e⟩ := hx.out; rw [← e]; exact hd1.at _ h
      obtain ⟨z0, hcb, hfb, _⟩ := hblk.get j (by rw [List.length_append, List.length_replicate]; have := hq.out; omega)
      obtain ⟨q', hq'⟩ : ∃ q', q' = (r * 18446744073709551616 + x) / d := ⟨_, rfl⟩
      obtain ⟨r', hr'⟩ : ∃ r', r' = (r * 18446744073709551616 + x) % d := ⟨_, rfl⟩
      have hdv := mkHid (fun w => div64_any r x d hrd hdW hxW q' r' hq' hr' w)
      have hr'd : r' < d := by rw [hr']; exact Nat.mod_lt _ hd0
      have hst : Hid (q' < 18446744073709551616 ∧ q' + 18446744073709551616 * (val 18446744073709551616 (xs.drop (j + 1)) / d) = (x + 18446744073709551616 * val 18446744073709551616 (xs.drop (j + 1))) / d ∧ r' = (x + 18446744073709551616 * val 18446744073709551616 (xs.drop (j + 1))) % d) := by
        rw [hv.out.2] at hq' hr'
        refine ⟨by rw [hq']; exact small_digit _ _ _ _ hd0 hxW, ?_⟩
        exact small_step _ _ _ _ _ _ hd0 hq' hr'
      clear hq' hr'
      go_wp2_with (go_at_call 89; (with_reducible refine (hdv.out _).mono ?_); rintro e w' ⟨rfl, md, rfl⟩)
      go_roundw
      case rel =>
        refine ⟨j, r', q' :: qs, by omega, rfl, by go_num, ?_, Dg.cons hst.out.1 dq, hr'd, ?_, ?_, ?_⟩
        · show _ = _
          have := hq.out
          rw [List.length_cons]; omega
        · show _ ∧ _
          obtain ⟨h, e⟩ := hx.out
          rw [val_drop _ _ _ h, e, val, hv.out.1]
          exact hst.out.2
        · have := hblk.set j q'
          rw [set_top] at this
          exact this
        · exact (hbel.trans (below_drewN _ _ _)).setCell hB _
      case measure => simp [intOf]

/-- a digit of a quotient, guessed out of three limbs by two -/
def guessN (x2 x1 x0 y1 y0 : Nat) : Nat := if y1 ≤ x2 then 18446744073709551615 else ((x2 * 18446744073709551616 + x1) * 18446744073709551616 + x0) / (y1 * 18446744073709551616 + y0)

set_option maxHeartbeats 400000 in
theorem guess_any (x2 x1 x0 y1 y0 : Nat) (_h2 : x2 < 18446744073709551616) (h1 : x1 < 18446744073709551616) (h0 : x0 < 18446744073709551616) (hy1 : y1 < 18446744073709551616) (hy0 : y0 < 18446744073709551616) (hp : 0 < y1) (w : World) :
    Calls Try.prog 64 #[.int .u64 (x2 : Int), .int .u64 (x1 : Int), .int .u64 (x0 : Int), .int .u64 (y1 : Int), .int .u64 (y0 : Int)] w fun e w' =>
      e = .returned (.int .u64 ((guessN x2 x1 x0 y1 y0 : Nat) : Int)) ∧ ∃ m, w' = w.drewN m := by
  by_cases hge : y1 ≤ x2
  · have t1 : decide (y1 ≤ x2) = true := decide_eq_true hge
    go_enter Try.func64, Try.ntmps64
    go_wp2
    go_step3
    go_wp2
    try rw [Exit.noGoto_ret]
    go_ret
    refine ⟨ret1 ?_, 0, rfl⟩
    unfold guessN
    rw [if_pos hge]; rfl
  · have t1 : decide (y1 ≤ x2) = false := decide_eq_false hge
    obtain ⟨u, hu⟩ : ∃ u, u = x2 * 18446744073709551616 + x1 := ⟨_, rfl⟩
    obtain ⟨q0, hq0⟩ : ∃ q, q = (x2 * 18446744073709551616 + x1) / y1 := ⟨_, rfl⟩
    obtain ⟨r0, hr0⟩ : ∃ r, r = (x2 * 18446744073709551616 + x1) % y1 := ⟨_, rfl⟩
    have hdv := mkHid (fun w => div64_any x2 x1 y1 (by omega) hy1 h1 q0 r0 hq0 hr0 w)
    have S0 : Guess 18446744073709551616 y1 y0 u x0 q0 r0 := by
      rw [hq0, hr0, ← hu]
      refine Guess.start hp (by omega) h0 ?_ (by omega)
      rw [hu, Nat.div_lt_iff_lt_mul hp]
      have : (x2 + 1) * 18446744073709551616 ≤ y1 * 18446744073709551616 := Nat.mul_le_mul_right _ (by omega)
      rw [Nat.mul_comm y1] at this
      omega
    have hG : Hid (guessN x2 x1 x0 y1 y0 = (u * 18446744073709551616 + x0) / (y1 * 18446744073709551616 + y0)) := by
      show _ = _
      unfold guessN
      rw [if_neg hge, hu]
    clear hq0 hr0 hu
    generalize guessN x2 x1 x0 y1 y0 = G at hG ⊢
    go_enter Try.func64, Try.ntmps64
    go_wp2
    go_step3
    go_wp2_with (go_at_call 89; (with_reducible refine (hdv.out _).mono ?_); rintro e w' ⟨rfl, md, rfl⟩)
    go_step3
    go_wp2
    go_loop [11, 12] (fun v r => ∃ q rr : Nat, v = .int .u64 q ∧ r = .int .u64 rr ∧ Guess 18446744073709551616 y1 y0 u x0 q rr) (fun v _ => (intOf v).toNat)
    case atStart => exact ⟨_, _, rfl, rfl, S0⟩
    case round =>
      obtain ⟨q, rr, rfl, rfl, H⟩ := hrel
      have hqW := H.q
      have hrW := H.r
      obtain ⟨hi, hhi⟩ : ∃ hi, hi = q * y0 / 18446744073709551616 := ⟨_, rfl⟩
      obtain ⟨lo, hlo⟩ : ∃ lo, lo = q * y0 % 18446744073709551616 := ⟨_, rfl⟩
      have hm := mkHid (fun w => mul64_o q y0 hqW hy0 hi lo hhi hlo w)
      have hiff := mkHid (halves_le 18446744073709551616 (q * y0) rr x0 hi lo hhi hlo h0)
      have hlo2 : lo < 18446744073709551616 := by rw [hlo]; exact Nat.mod_lt _ (by omega)
      clear hhi hlo
      by_cases c1 : hi < rr
      · have t2 : decide (hi < rr) = true := decide_eq_true c1
        have hst := mkHid (H.stop hp (by omega) (hiff.out.2 (.inl c1)))
        go_wp2_with (go_at_call 73; (with_reducible refine (hm.out _).mono ?_); rintro e w' ⟨rfl, rfl⟩)
        try rw [Exit.noGoto_ret]
        go_ret
        exact ⟨ret1 (by rw [hG.out, ← hst.out]), md, rfl⟩
      · have t2 : decide (hi < rr) = false := decide_eq_false c1
        by_cases c2 : hi = rr ∧ lo ≤ x0
        · have t3 : ((hi : Int) == (rr : Int)) = true := beq_t c2.1
          have t4 : decide (lo ≤ x0) = true := decide_eq_true c2.2
          have hst := mkHid (H.stop hp (by omega) (hiff.out.2 (.inr c2)))
          clear c2
          go_wp2_with (go_at_call 73; (with_reducible refine (hm.out _).mono ?_); rintro e w' ⟨rfl, rfl⟩)
          try rw [Exit.noGoto_ret]
          go_ret
          exact ⟨ret1 (by rw [hG.out, ← hst.out]), md, rfl⟩
        · have hgt := mkHid (show 18446744073709551616 * rr + x0 < q * y0 by
            have h := hiff.out
            have : ¬ (q * y0 ≤ 18446744073709551616 * rr + x0) := fun h' => (h.1 h').elim c1 c2
            omega)
          obtain ⟨q', hq'⟩ : ∃ q', q = q' + 1 := ⟨q - 1, by
            have h := hgt.out
            rcases Nat.eq_zero_or_pos q with h' | h'
            · rw [h', Nat.zero_mul] at h; omega
            · omega⟩
          have e1 : IntKind.u64.wrap ((q : Int) - 1) = (q' : Int) := by rw [IntKind.wrap_u64]; omega
          have H' := H
          rw [hq'] at H'
          have hgt' := hgt.out
          rw [hq'] at hgt'
          have HGT := mkHid hgt'
          have HQ' := mkHid hq'
          obtain ⟨rs, hrs⟩ : ∃ rs, rs = (rr + y1 + 0) % 18446744073709551616 := ⟨_, rfl⟩
          obtain ⟨ov, hov⟩ : ∃ ov, ov = (rr + y1 + 0) / 18446744073709551616 := ⟨_, rfl⟩
          have ha := add64_run00 rr y1 hrW hy1 rs ov hrs hov
          by_cases hbr : 18446744073709551616 ≤ rr + y1
          · have t5 : decide (0 < ov) = true := decide_eq_true (by omega)
            have hst := mkHid (H'.brk hp (by omega) hy0 HGT.out hbr)
            clear hrs hov hq' hgt' hgt
            by_cases c3 : hi = rr
            · have t3 : ((hi : Int) == (rr : Int)) = true := beq_t c3
              have t4 : decide (lo ≤ x0) = false := decide_eq_false (fun h => c2 ⟨c3, h⟩)
              clear c2 c3
              go_wp2_with (go_at_call 73; (with_reducible refine (hm.out _).mono ?_); rintro e w' ⟨rfl, rfl⟩)
              try rw [Exit.noGoto_ret]
              go_ret
              exact ⟨ret1 (by rw [hG.out, ← hst.out]), md, rfl⟩
            · have t3 : ((hi : Int) == (rr : Int)) = false := beq_f c3
              clear c2 c3
              go_wp2_with (go_at_call 73; (with_reducible refine (hm.out _).mono ?_); rintro e w' ⟨rfl, rfl⟩)
              try rw [Exit.noGoto_ret]
              go_ret
              exact ⟨ret1 (by rw [hG.out, ← hst.out]), md, rfl⟩
          · have t5 : decide (0 < ov) = false := decide_eq_false (by omega)
            have hgo := H'.go hp (by omega) HGT.out (by omega)
            rw [show rr + y1 = rs by omega] at hgo
            clear hrs hov hq' hgt' hgt
            by_cases c3 : hi = rr
            · have t3 : ((hi : Int) == (rr : Int)) = true := beq_t c3
              have t4 : decide (lo ≤ x0) = false := decide_eq_false (fun h => c2 ⟨c3, h⟩)
              clear c2 c3
              go_wp2_with (go_at_call 73; (with_reducible refine (hm.out _).mono ?_); rintro e w' ⟨rfl, rfl⟩)
              go_round
              case rel => exact ⟨q', rs, rfl, rfl, hgo⟩
              case measure => simp [intOf]; have := HQ'.out; omega
            · have t3 : ((hi : Int) == (rr : Int)) = false := beq_f c3
              clear c2 c3
              go_wp2_with (go_at_call 73; (with_reducible refine (hm.out _).mono ?_); rintro e w' ⟨rfl, rfl⟩)
              go_round
              case rel => exact ⟨q', rs, rfl, rfl, hgo⟩
              case measure => simp [intOf]; have := HQ'.out; omega

end Go.Proofs.Ytaeamlldocbeeaa
