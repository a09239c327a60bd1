/- LimbC: Limb8, Limb9, Limb10. -/
import Derived.Test.YtaeamlldocbeeaaDoorDivA
import Derived.Test.YtaeamlldocbeeaaDoorNumA

/- limb: small, guess. -/

namespace Go.Proofs.YtaeamlldocbeeaaDoor
open Go.RowKit Num

/-- a slice of its own memory, and a number, are the results -/
def GivesN (k : IntKind) (T : TypeId) (w : World) (x : Nat) (xs : List Nat) (e : Ending) (w' : World) : Prop :=
  ∃ a n c, e = .returned (.tuple #[.slice a n c, .int k (x : Int)]) ∧ Own k T w.heap.size w' a n c xs ∧ Below w.heap.size w w'

theorem small_any {a1 : Option Addr} {n c1 : Nat} {xs : List Nat} {w : World} (h1 : Sl .u64 w a1 n c1 xs) (hd1 : Dg 18446744073709551616 xs) (hn1 : n ≤ 1099511627776) (d : Nat) (hd0 : 0 < d) (hdW : d < 18446744073709551616) :
    Calls Tryd.prog 42 #[.slice a1 n c1, .int .u64 (d : Int)] w (GivesN .u64 47 w (val 18446744073709551616 xs % d) (dig 18446744073709551616 (val 18446744073709551616 xs / d))) := by
  have hl := mkHid h1.len
  go_enter Tryd.func42, Tryd.ntmps42
  go_wp2_with (first
    | (at_make; refine wpList_mk rfl _ _ _ rfl 47 .u64 8 under_nat info_u64 n rfl rfl (by omega) (by omega) (by omega) (by omega) ?_; intro b w2 hB hblk hbel))
  go_loopw [7, 8] (fun rv iv wr => ∃ (j r : Nat) (qs : List Nat), j ≤ n ∧ rv = .int .u64 r ∧ iv = .int .i64 ((j : Int) - 1) ∧ Hid (j + qs.length = n) ∧ Dg 18446744073709551616 qs ∧ r < d ∧
      Hid (val 18446744073709551616 qs = val 18446744073709551616 (xs.drop j) / d ∧ r = val 18446744073709551616 (xs.drop j) % d) ∧ Blk wr b .u64 47 (List.replicate j 0 ++ qs) ∧ Below w.heap.size w wr) (fun _ iv _ => (intOf iv + 1).toNat)
  case atStart =>
    refine ⟨n, 0, [], Nat.le_refl _, rfl, rfl, ?_, Dg.nil, hd0, ?_, by simpa using hblk, hbel⟩
    · show _ = _
      simp
    · show _ ∧ _
      rw [List.drop_of_length_le (by rw [hl.out]; exact Nat.le_refl _)]
      simp [val]
  case round =>
    clear hblk hbel
    obtain ⟨j, r, qs, hj, rfl, rfl, hq, dq, hrd, hv, hblk, hbel⟩ := hrel
    cases j with
    | zero =>
      rw [show ((0 : Nat) : Int) - 1 = -1 from rfl]
      rw [List.replicate_zero, List.nil_append] at hblk
      have hown := Own.ofBlk hblk hB n (by have := hq.out; omega) (by omega)
      have hval : Hid (val 18446744073709551616 qs = val 18446744073709551616 xs / d ∧ r = val 18446744073709551616 xs % d) := hv.out
      go_wp2_with (go_at_call 38; (with_reducible refine (trim_own hown dq).mono ?_); rintro e w' ⟨m', rfl, hm', ho, rfl⟩)
      go_ret2
      refine ⟨some ⟨b, 0, none⟩, m', n, ?_, by rw [← hval.out.1]; exact ho, hbel⟩
      rw [← hval.out.2]; rfl
    | succ j =>
      rw [show ((j + 1 : Nat) : Int) - 1 = (j : Int) by omega]
      obtain ⟨b1, o1, x, rfl, hcx, hx⟩ := (h1.keep hbel).get j (by omega)
      have hxW : x < 18446744073709551616 := by obtain ⟨h, e⟩ := hx.out; rw [← e]; exact hd1.at _ h
      obtain ⟨z0, hcb, hfb, _⟩ := hblk.get j (by rw [List.length_append, List.length_replicate]; have := hq.out; omega)
      obtain ⟨q', hq'⟩ : ∃ q', q' = (r * 18446744073709551616 + x) / d := ⟨_, rfl⟩
      obtain ⟨r', hr'⟩ : ∃ r', r' = (r * 18446744073709551616 + x) % d := ⟨_, rfl⟩
      have hdv := mkHid (fun w => div64_any r x d hrd hdW hxW q' r' hq' hr' w)
      have hr'd : r' < d := by rw [hr']; exact Nat.mod_lt _ hd0
      have hst : Hid (q' < 18446744073709551616 ∧ q' + 18446744073709551616 * (val 18446744073709551616 (xs.drop (j + 1)) / d) = (x + 18446744073709551616 * val 18446744073709551616 (xs.drop (j + 1))) / d ∧ r' = (x + 18446744073709551616 * val 18446744073709551616 (xs.drop (j + 1))) % d) := by
        rw [hv.out.2] at hq' hr'
        refine ⟨by rw [hq']; exact small_digit _ _ _ _ hd0 hxW, ?_⟩
        exact small_step _ _ _ _ _ _ hd0 hq' hr'
      clear hq' hr'
      go_wp2_with (go_at_call 58; (with_reducible refine (hdv.out _).mono ?_); rintro e w' ⟨rfl, md, rfl⟩)
      go_roundw
      case rel =>
        refine ⟨j, r', q' :: qs, by omega, rfl, by go_num, ?_, Dg.cons hst.out.1 dq, hr'd, ?_, ?_, ?_⟩
        · show _ = _
          have := hq.out
          rw [List.length_cons]; omega
        · show _ ∧ _
          obtain ⟨h, e⟩ := hx.out
          rw [val_drop _ _ _ h, e, val, hv.out.1]
          exact hst.out.2
        · have := hblk.set j q'
          rw [set_top] at this
          exact this
        · exact (hbel.trans (below_drewN _ _ _)).setCell hB _
      case measure => simp [intOf]

/-- a digit of a quotient, guessed out of three limbs by two -/
def guessN (x2 x1 x0 y1 y0 : Nat) : Nat := if y1 ≤ x2 then 18446744073709551615 else ((x2 * 18446744073709551616 + x1) * 18446744073709551616 + x0) / (y1 * 18446744073709551616 + y0)

set_option maxHeartbeats 400000 in
theorem guess_any (x2 x1 x0 y1 y0 : Nat) (_h2 : x2 < 18446744073709551616) (h1 : x1 < 18446744073709551616) (h0 : x0 < 18446744073709551616) (hy1 : y1 < 18446744073709551616) (hy0 : y0 < 18446744073709551616) (hp : 0 < y1) (w : World) :
    Calls Tryd.prog 46 #[.int .u64 (x2 : Int), .int .u64 (x1 : Int), .int .u64 (x0 : Int), .int .u64 (y1 : Int), .int .u64 (y0 : Int)] w fun e w' =>
      e = .returned (.int .u64 ((guessN x2 x1 x0 y1 y0 : Nat) : Int)) ∧ ∃ m, w' = w.drewN m := by
  by_cases hge : y1 ≤ x2
  · have t1 : decide (y1 ≤ x2) = true := decide_eq_true hge
    go_enter Tryd.func46, Tryd.ntmps46
    go_wp2
    go_step3
    go_wp2
    try rw [Exit.noGoto_ret]
    go_ret
    refine ⟨ret1 ?_, 0, rfl⟩
    unfold guessN
    rw [if_pos hge]; rfl
  · have t1 : decide (y1 ≤ x2) = false := decide_eq_false hge
    obtain ⟨u, hu⟩ : ∃ u, u = x2 * 18446744073709551616 + x1 := ⟨_, rfl⟩
    obtain ⟨q0, hq0⟩ : ∃ q, q = (x2 * 18446744073709551616 + x1) / y1 := ⟨_, rfl⟩
    obtain ⟨r0, hr0⟩ : ∃ r, r = (x2 * 18446744073709551616 + x1) % y1 := ⟨_, rfl⟩
    have hdv := mkHid (fun w => div64_any x2 x1 y1 (by omega) hy1 h1 q0 r0 hq0 hr0 w)
    have S0 : Guess 18446744073709551616 y1 y0 u x0 q0 r0 := by
      rw [hq0, hr0, ← hu]
      refine Guess.start hp (by omega) h0 ?_ (by omega)
      rw [hu, Nat.div_lt_iff_lt_mul hp]
      have : (x2 + 1) * 18446744073709551616 ≤ y1 * 18446744073709551616 := Nat.mul_le_mul_right _ (by omega)
      rw [Nat.mul_comm y1] at this
      omega
    have hG : Hid (guessN x2 x1 x0 y1 y0 = (u * 18446744073709551616 + x0) / (y1 * 18446744073709551616 + y0)) := by
      show _ = _
      unfold guessN
      rw [if_neg hge, hu]
    clear hq0 hr0 hu
    generalize guessN x2 x1 x0 y1 y0 = G at hG ⊢
    go_enter Tryd.func46, Tryd.ntmps46
    go_wp2
    go_step3
    go_wp2_with (go_at_call 58; (with_reducible refine (hdv.out _).mono ?_); rintro e w' ⟨rfl, md, rfl⟩)
    go_step3
    go_wp2
    go_loop [11, 12] (fun v r => ∃ q rr : Nat, v = .int .u64 q ∧ r = .int .u64 rr ∧ Guess 18446744073709551616 y1 y0 u x0 q rr) (fun v _ => (intOf v).toNat)
    case atStart => exact ⟨_, _, rfl, rfl, S0⟩
    case round =>
      obtain ⟨q, rr, rfl, rfl, H⟩ := hrel
      have hqW := H.q
      have hrW := H.r
      obtain ⟨hi, hhi⟩ : ∃ hi, hi = q * y0 / 18446744073709551616 := ⟨_, rfl⟩
      obtain ⟨lo, hlo⟩ : ∃ lo, lo = q * y0 % 18446744073709551616 := ⟨_, rfl⟩
      have hm := mkHid (fun w => mul64_o q y0 hqW hy0 hi lo hhi hlo w)
      have hiff := mkHid (halves_le 18446744073709551616 (q * y0) rr x0 hi lo hhi hlo h0)
      have hlo2 : lo < 18446744073709551616 := by rw [hlo]; exact Nat.mod_lt _ (by omega)
      clear hhi hlo
      by_cases c1 : hi < rr
      · have t2 : decide (hi < rr) = true := decide_eq_true c1
        have hst := mkHid (H.stop hp (by omega) (hiff.out.2 (.inl c1)))
        go_wp2_with (go_at_call 52; (with_reducible refine (hm.out _).mono ?_); rintro e w' ⟨rfl, rfl⟩)
        try rw [Exit.noGoto_ret]
        go_ret
        exact ⟨ret1 (by rw [hG.out, ← hst.out]), md, rfl⟩
      · have t2 : decide (hi < rr) = false := decide_eq_false c1
        by_cases c2 : hi = rr ∧ lo ≤ x0
        · have t3 : ((hi : Int) == (rr : Int)) = true := beq_t c2.1
          have t4 : decide (lo ≤ x0) = true := decide_eq_true c2.2
          have hst := mkHid (H.stop hp (by omega) (hiff.out.2 (.inr c2)))
          clear c2
          go_wp2_with (go_at_call 52; (with_reducible refine (hm.out _).mono ?_); rintro e w' ⟨rfl, rfl⟩)
          try rw [Exit.noGoto_ret]
          go_ret
          exact ⟨ret1 (by rw [hG.out, ← hst.out]), md, rfl⟩
        · have hgt := mkHid (show 18446744073709551616 * rr + x0 < q * y0 by
            have h := hiff.out
            have : ¬ (q * y0 ≤ 18446744073709551616 * rr + x0) := fun h' => (h.1 h').elim c1 c2
            omega)
          obtain ⟨q', hq'⟩ : ∃ q', q = q' + 1 := ⟨q - 1, by
            have h := hgt.out
            rcases Nat.eq_zero_or_pos q with h' | h'
            · rw [h', Nat.zero_mul] at h; omega
            · omega⟩
          have e1 : IntKind.u64.wrap ((q : Int) - 1) = (q' : Int) := by rw [IntKind.wrap_u64]; omega
          have H' := H
          rw [hq'] at H'
          have hgt' := hgt.out
          rw [hq'] at hgt'
          have HGT := mkHid hgt'
          have HQ' := mkHid hq'
          obtain ⟨rs, hrs⟩ : ∃ rs, rs = (rr + y1 + 0) % 18446744073709551616 := ⟨_, rfl⟩
          obtain ⟨ov, hov⟩ : ∃ ov, ov = (rr + y1 + 0) / 18446744073709551616 := ⟨_, rfl⟩
          have ha := add64_run00 rr y1 hrW hy1 rs ov hrs hov
          by_cases hbr : 18446744073709551616 ≤ rr + y1
          · have t5 : decide (0 < ov) = true := decide_eq_true (by omega)
            have hst := mkHid (H'.brk hp (by omega) hy0 HGT.out hbr)
            clear hrs hov hq' hgt' hgt
            by_cases c3 : hi = rr
            · have t3 : ((hi : Int) == (rr : Int)) = true := beq_t c3
              have t4 : decide (lo ≤ x0) = false := decide_eq_false (fun h => c2 ⟨c3, h⟩)
              clear c2 c3
              go_wp2_with (go_at_call 52; (with_reducible refine (hm.out _).mono ?_); rintro e w' ⟨rfl, rfl⟩)
              try rw [Exit.noGoto_ret]
              go_ret
              exact ⟨ret1 (by rw [hG.out, ← hst.out]), md, rfl⟩
            · have t3 : ((hi : Int) == (rr : Int)) = false := beq_f c3
              clear c2 c3
              go_wp2_with (go_at_call 52; (with_reducible refine (hm.out _).mono ?_); rintro e w' ⟨rfl, rfl⟩)
              try rw [Exit.noGoto_ret]
              go_ret
              exact ⟨ret1 (by rw [hG.out, ← hst.out]), md, rfl⟩
          · have t5 : decide (0 < ov) = false := decide_eq_false (by omega)
            have hgo := H'.go hp (by omega) HGT.out (by omega)
            rw [show rr + y1 = rs by omega] at hgo
            clear hrs hov hq' hgt' hgt
            by_cases c3 : hi = rr
            · have t3 : ((hi : Int) == (rr : Int)) = true := beq_t c3
              have t4 : decide (lo ≤ x0) = false := decide_eq_false (fun h => c2 ⟨c3, h⟩)
              clear c2 c3
              go_wp2_with (go_at_call 52; (with_reducible refine (hm.out _).mono ?_); rintro e w' ⟨rfl, rfl⟩)
              go_round
              case rel => exact ⟨q', rs, rfl, rfl, hgo⟩
              case measure => simp [intOf]; have := HQ'.out; omega
            · have t3 : ((hi : Int) == (rr : Int)) = false := beq_f c3
              clear c2 c3
              go_wp2_with (go_at_call 52; (with_reducible refine (hm.out _).mono ?_); rintro e w' ⟨rfl, rfl⟩)
              go_round
              case rel => exact ⟨q', rs, rfl, rfl, hgo⟩
              case measure => simp [intOf]; have := HQ'.out; omega

end Go.Proofs.YtaeamlldocbeeaaDoor

/- limb: takes, gives. -/

namespace Go.Proofs.YtaeamlldocbeeaaDoor
open Go.RowKit Num

theorem grown_set {w wr : World} {b : Nat} (h : w.grownBy wr (some b)) (i : Nat) (v : Value) : w.grownBy (wr.setCell ⟨b, i, none⟩ v) (some b) :=
  ⟨h.os, h.tape, h.output, by rw [World.size_setCell]; exact h.size, fun k hk hne => by
    rw [Below.heap_setCell _ _ _ _ (by intro e; exact hne (by rw [e]))]; exact h.block k hk hne⟩

theorem grown_trans {a b c : World} {r : Option Nat} (h : a.grownBy b r) (k : b.grownBy c r) : a.grownBy c r :=
  ⟨k.os.trans h.os, k.tape.trans h.tape, k.output.trans h.output, Nat.le_trans h.size k.size, fun i hi hne => (k.block i (Nat.lt_of_lt_of_le hi h.size) hne).trans (h.block i hi hne)⟩

theorem grown_refl (w : World) (r : Option Nat) : w.grownBy w r := ⟨rfl, rfl, rfl, Nat.le_refl _, fun _ _ _ => rfl⟩

theorem grown_drewN (w : World) (m : Nat) (r : Option Nat) : w.grownBy (w.drewN m) r := ⟨rfl, rfl, rfl, Nat.le_refl _, fun _ _ _ => rfl⟩

theorem grown_below {B b : Nat} {w w' : World} (h : w.grownBy w' (some b)) (hb : B ≤ b) (hB : B ≤ w.heap.size) : Below B w w' :=
  ⟨h.os, h.tape, h.output, h.size, fun k hk => h.block k (by omega) (by simp; omega)⟩

theorem Row.grown {w w' : World} {b b' : Nat} {T : TypeId} {vs : List Value} (h : Row w b T vs) (hg : w.grownBy w' (some b')) (hne : b ≠ b') : Row w' b T vs :=
  (hg.block b h.lt (by simpa using hne)).trans h

theorem Blk.grown {w w' : World} {b b' : Nat} {k : IntKind} {T : TypeId} {xs : List Nat} (h : Blk w b k T xs) (hg : w.grownBy w' (some b')) (hne : b ≠ b') : Blk w' b k T xs :=
  (hg.block b h.lt (by simpa using hne)).trans h

theorem Sl.grown {k : IntKind} {w w' : World} {a : Option Addr} {n c b : Nat} {xs : List Nat} (h : Sl k w a n c xs) (hg : w.grownBy w' (some b)) (hne : ∀ p, a = some p → p.block ≠ b) : Sl k w' a n c xs := by
  refine ⟨h.len, h.le, h.cap, h.nil, h.spot, ?_⟩
  intro i hi
  obtain ⟨b', o', e, hc⟩ := h.rd i hi
  have := hne _ e
  exact ⟨b', o', e, hg.cell hc (by simpa using this)⟩

/-- block b begins with the numbers xs; behind them lie the cells tl -/
def Pre (w : World) (b : Nat) (k : IntKind) (T : TypeId) (xs : List Nat) (tl : List Value) : Prop := Row w b T (U k xs ++ tl)

theorem Pre.get {w : World} {b : Nat} {k : IntKind} {T : TypeId} {xs : List Nat} {tl : List Value} (h : Pre w b k T xs tl) (i : Nat) (hi : i < xs.length) :
    ∃ x : Nat, w.cell? ⟨b, i, none⟩ = some (.int k (x : Int)) ∧ w.frozen? ⟨b, i, none⟩ = false ∧ Hid (∃ h : i < xs.length, xs[i] = x) := by
  refine ⟨xs[i], ?_, Row.frozen h i, hi, rfl⟩
  rw [Row.cell h, List.getElem?_append_left (by rw [U_length]; exact hi), U_get, List.getElem?_eq_getElem hi]; rfl

theorem Pre.set {w : World} {b : Nat} {k : IntKind} {T : TypeId} {xs : List Nat} {tl : List Value} (h : Pre w b k T xs tl) (i x : Nat) (hi : i < xs.length) :
    Pre (w.setCell ⟨b, i, none⟩ (.int k (x : Int))) b k T (xs.set i x) tl := by
  have := Row.set h i (.int k (x : Int))
  rw [List.set_append_left _ _ (by rw [U_length]; exact hi), ← U_set] at this
  exact this

theorem Pre.keep {w w' : World} {b : Nat} {k : IntKind} {T : TypeId} {xs : List Nat} {tl : List Value} (h : Pre w b k T xs tl) (hb : Below w.heap.size w w') : Pre w' b k T xs tl := Row.keep h hb

theorem Pre.grown {w w' : World} {b b' : Nat} {k : IntKind} {T : TypeId} {xs : List Nat} {tl : List Value} (h : Pre w b k T xs tl) (hg : w.grownBy w' (some b')) (hne : b ≠ b') : Pre w' b k T xs tl := Row.grown h hg hne

theorem Own.pre {k : IntKind} {T : TypeId} {B : Nat} {w : World} {a : Option Addr} {n c : Nat} {xs : List Nat} (h : Own k T B w a n c xs) (hn : 0 < c) :
    ∃ b tl, a = some ⟨b, 0, none⟩ ∧ B ≤ b ∧ n + tl.length = c ∧ c ≤ 9223372036854775807 ∧ Pre w b k T xs tl := by
  rcases h.row with ⟨_, _, hc⟩ | ⟨b, ys, e, hB, hl, hc, hk⟩
  · omega
  · exact ⟨b, ys, e, hB, hl, hc, hk⟩

theorem Pre.own {k : IntKind} {T : TypeId} {B : Nat} {w : World} {b : Nat} {xs : List Nat} {tl : List Value} (h : Pre w b k T xs tl) (hB : B ≤ b) (n c : Nat) (hn : xs.length = n) (hc : n + tl.length = c) (hm : c ≤ 9223372036854775807) :
    Own k T B w (some ⟨b, 0, none⟩) n c xs := ⟨hn, .inr ⟨b, tl, rfl, hB, hc, hm, h⟩⟩

/-- takes: q times Y off a part of a row -/
theorem takes_any {b o n c c2 : Nat} {tl : List Value} {a2 : Option Addr} {zs Y : List Nat} {w : World} (hblk0 : Pre w b .u64 47 zs tl) (dz0 : Dg 18446744073709551616 zs) (ho : o + n + 1 ≤ zs.length)
    (hY : Sl .u64 w a2 n c2 Y) (dY : Dg 18446744073709551616 Y) (hne : ∀ p, a2 = some p → p.block ≠ b) (hn1 : n ≤ 1099511627776) (q : Nat) (hq : q < 18446744073709551616) :
    Calls Tryd.prog 47 #[.slice (some ⟨b, o, none⟩) (n + 1) c, .slice a2 n c2, .int .u64 (q : Int)] w fun e w' => ∃ (bo : Nat) (us : List Nat), e = .returned (.bool (decide (0 < bo))) ∧ bo ≤ 1 ∧
      us.length = zs.length ∧ Dg 18446744073709551616 us ∧ us.take o = zs.take o ∧ us.drop (o + n + 1) = zs.drop (o + n + 1) ∧
      val 18446744073709551616 (seg us o (n + 1)) + q * val 18446744073709551616 Y = val 18446744073709551616 (seg zs o (n + 1)) + 18446744073709551616 ^ (n + 1) * bo ∧ Pre w' b .u64 47 us tl ∧ w.grownBy w' (some b) := by
  have HO := mkHid ho
  clear ho
  have HYL := mkHid hY.len
  go_enter Tryd.func47, Tryd.ntmps47
  go_wp2
  go_loopw [7, 8, 16] (fun cv bv iv wr => ∃ (i ca bo : Nat) (us : List Nat), i ≤ n ∧ ca < 18446744073709551616 ∧ bo ≤ 1 ∧ cv = .int .u64 ca ∧ bv = .int .u64 bo ∧ iv = .int .i64 i ∧ Hid (us.length = zs.length) ∧ Dg 18446744073709551616 us ∧
    Hid (us.take o = zs.take o) ∧ Hid (us.drop (o + i) = zs.drop (o + i)) ∧ Hid (val 18446744073709551616 (seg us o i) + q * val 18446744073709551616 (Y.take i) = val 18446744073709551616 (seg zs o i) + 18446744073709551616 ^ i * (ca + bo)) ∧
    Pre wr b .u64 47 us tl ∧ w.grownBy wr (some b)) (fun _ _ iv _ => n - (intOf iv).toNat)
  case atStart =>
    exact ⟨0, 0, 0, zs, Nat.zero_le _, by omega, by omega, rfl, rfl, rfl, rfl, dz0, rfl, rfl, by show _ = _; simp [seg, val], hblk0, grown_refl _ _⟩
  case round =>
    obtain ⟨i, ca, bo, us, hi, hca, hbo, rfl, rfl, rfl, hu, du, ht, hd, hv, hblk, hg⟩ := hrel
    by_cases hlt : i < n
    · obtain ⟨b2, o2, v, rfl, hcv, hv'⟩ := (hY.grown hg hne).get i hlt
      have hvW : v < 18446744073709551616 := by obtain ⟨h, e⟩ := hv'.out; rw [← e]; exact dY.at _ h
      obtain ⟨x, hcx, hfx, hx⟩ := hblk.get (o + i) (by rw [hu.out]; have := HO.out; omega)
      have hxW : x < 18446744073709551616 := by obtain ⟨h, e⟩ := hx.out; rw [← e]; exact du.at _ h
      obtain ⟨hi', g1⟩ : ∃ hi, hi = q * v / 18446744073709551616 := ⟨_, rfl⟩
      obtain ⟨lo, g2⟩ : ∃ lo, lo = q * v % 18446744073709551616 := ⟨_, rfl⟩
      obtain ⟨l2, g3⟩ : ∃ l2, l2 = (lo + ca + 0) % 18446744073709551616 := ⟨_, rfl⟩
      obtain ⟨cc, g4⟩ : ∃ cc, cc = (lo + ca + 0) / 18446744073709551616 := ⟨_, rfl⟩
      obtain ⟨s, g5⟩ : ∃ s, s = (x + 18446744073709551616 - l2 - bo) % 18446744073709551616 := ⟨_, rfl⟩
      obtain ⟨bo', g6⟩ : ∃ bo', bo' = if x < l2 + bo then 1 else 0 := ⟨_, rfl⟩
      obtain ⟨st, hcc⟩ := takes_step 18446744073709551616 _ _ _ _ x v q s hi' lo l2 cc ca bo bo' hv.out hxW hq hvW hca hbo g1 g2 g3 g4 g5 g6
      have hloW : lo < 18446744073709551616 := by rw [g2]; exact Nat.mod_lt _ (by omega)
      have hl2W : l2 < 18446744073709551616 := by rw [g3]; exact Nat.mod_lt _ (by omega)
      have hsW : s < 18446744073709551616 := by rw [g5]; exact Nat.mod_lt _ (by omega)
      have hbo' : bo' ≤ 1 := by rw [g6]; split <;> omega
      have M := mkHid (fun w => mul64_o q v hq hvW hi' lo g1 g2 w)
      have a1 := add64_run00 lo ca hloW hca l2 cc g3 g4
      have a2 := sub64_run x l2 bo hxW hl2W hbo s bo' g5 g6
      obtain ⟨ca', g7⟩ : ∃ ca', ca' = hi' + cc := ⟨_, rfl⟩
      have w1 := u64_in hi' cc hcc ca' g7
      rw [← g7] at st hcc
      have ST := mkHid st
      clear g1 g2 g3 g4 g5 g6 g7 st
      go_wp2_with (go_at_call 52; (with_reducible refine (M.out _).mono ?_); rintro e w' ⟨rfl, rfl⟩)
      go_roundw
      case rel =>
        obtain ⟨hp, ex⟩ := hx.out
        obtain ⟨hp2, ev⟩ := hv'.out
        refine ⟨i + 1, ca', bo', us.set (o + i) s, by omega, hcc, hbo', rfl, rfl, by go_num, ?_, du.set _ _ hsW, ?_, ?_, ?_, hblk.set _ _ hp, grown_set hg _ _⟩
        · show _ = _
          rw [List.length_set]; exact hu.out
        · show _ = _
          rw [List.take_set_of_le (by omega)]; exact ht.out
        · show _ = _
          rw [← Nat.add_assoc, drop_set_succ]
          exact drop_succ_of_drop hd.out
        · show _ = _
          have hzl : o + i < zs.length := by rw [← hu.out]; exact hp
          have exz := getElem_of_drop hd.out hp hzl
          rw [seg_set _ _ _ _ hp, seg_succ _ _ _ hzl, val_snoc, val_snoc, seg_length _ _ _ (by omega), seg_length _ _ _ (by omega), val_take_succ _ _ _ hp2, ev, ← exz, ex, Nat.pow_succ]
          exact ST.out
      case measure => simp [intOf]; omega
    · obtain rfl : i = n := by omega
      obtain ⟨x, hcx, hfx, hx⟩ := hblk.get (o + i) (by rw [hu.out]; have := HO.out; omega)
      have hxW : x < 18446744073709551616 := by obtain ⟨h, e⟩ := hx.out; rw [← e]; exact du.at _ h
      obtain ⟨s, g5⟩ : ∃ s, s = (x + 18446744073709551616 - ca - bo) % 18446744073709551616 := ⟨_, rfl⟩
      obtain ⟨bo', g6⟩ : ∃ bo', bo' = if x < ca + bo then 1 else 0 := ⟨_, rfl⟩
      have st := takes_last 18446744073709551616 _ _ _ _ _ x s ca bo bo' hv.out hxW hca hbo g5 g6
      have hsW : s < 18446744073709551616 := by rw [g5]; exact Nat.mod_lt _ (by omega)
      have hbo' : bo' ≤ 1 := by rw [g6]; split <;> omega
      have a2 := sub64_run x ca bo hxW hca hbo s bo' g5 g6
      have ST := mkHid st
      clear g5 g6 st
      go_wp2
      go_ret
      obtain ⟨hp, ex⟩ := hx.out
      have hzl : o + i < zs.length := by rw [← hu.out]; exact hp
      have exz := getElem_of_drop hd.out hp hzl
      refine ⟨bo', us.set (o + i) s, rfl, hbo', by rw [List.length_set]; exact hu.out, du.set _ _ hsW, by rw [List.take_set_of_le (by omega)]; exact ht.out, by rw [drop_set_succ]; exact drop_succ_of_drop hd.out, ?_, hblk.set _ _ hp, grown_set hg _ _⟩
      rw [seg_set _ _ _ _ hp, seg_succ _ _ _ hzl, val_snoc, val_snoc, seg_length _ _ _ (by omega), seg_length _ _ _ (by omega), ← exz, ex, Nat.pow_succ]
      have e6 := ST.out
      rw [List.take_of_length_le (l := Y) (by rw [HYL.out]; omega)] at e6
      exact e6

/-- gives: Y added to a part of a row, what is carried beyond it lost -/
theorem gives_any {b o n c c2 : Nat} {tl : List Value} {a2 : Option Addr} {zs Y : List Nat} {w : World} (hblk0 : Pre w b .u64 47 zs tl) (dz0 : Dg 18446744073709551616 zs) (ho : o + n + 1 ≤ zs.length)
    (hY : Sl .u64 w a2 n c2 Y) (dY : Dg 18446744073709551616 Y) (hne : ∀ p, a2 = some p → p.block ≠ b) (hn1 : n ≤ 1099511627776) :
    Calls Tryd.prog 48 #[.slice (some ⟨b, o, none⟩) (n + 1) c, .slice a2 n c2] w fun e w' => ∃ (k : Nat) (us : List Nat), e = .returned (.tuple #[]) ∧
      us.length = zs.length ∧ Dg 18446744073709551616 us ∧ us.take o = zs.take o ∧ us.drop (o + n + 1) = zs.drop (o + n + 1) ∧
      val 18446744073709551616 (seg us o (n + 1)) + 18446744073709551616 ^ (n + 1) * k = val 18446744073709551616 (seg zs o (n + 1)) + val 18446744073709551616 Y ∧ Pre w' b .u64 47 us tl ∧ w.grownBy w' (some b) := by
  have HO := mkHid ho
  clear ho
  have HYL := mkHid hY.len
  go_enter Tryd.func48, Tryd.ntmps48
  go_wp2
  go_loopw [4, 9] (fun cv iv wr => ∃ (i ca : Nat) (us : List Nat), i ≤ n ∧ ca ≤ 1 ∧ cv = .int .u64 ca ∧ iv = .int .i64 i ∧ Hid (us.length = zs.length) ∧ Dg 18446744073709551616 us ∧
    Hid (us.take o = zs.take o) ∧ Hid (us.drop (o + i) = zs.drop (o + i)) ∧ Hid (val 18446744073709551616 (seg us o i) + 18446744073709551616 ^ i * ca = val 18446744073709551616 (seg zs o i) + val 18446744073709551616 (Y.take i)) ∧
    Pre wr b .u64 47 us tl ∧ w.grownBy wr (some b)) (fun _ iv _ => n - (intOf iv).toNat)
  case atStart =>
    exact ⟨0, 0, zs, Nat.zero_le _, by omega, rfl, rfl, rfl, dz0, rfl, rfl, by show _ = _; simp [seg, val], hblk0, grown_refl _ _⟩
  case round =>
    obtain ⟨i, ca, us, hi, hca, rfl, rfl, hu, du, ht, hd, hv, hblk, hg⟩ := hrel
    by_cases hlt : i < n
    · obtain ⟨b2, o2, v, rfl, hcv, hv'⟩ := (hY.grown hg hne).get i hlt
      have hvW : v < 18446744073709551616 := by obtain ⟨h, e⟩ := hv'.out; rw [← e]; exact dY.at _ h
      obtain ⟨x, hcx, hfx, hx⟩ := hblk.get (o + i) (by rw [hu.out]; have := HO.out; omega)
      have hxW : x < 18446744073709551616 := by obtain ⟨h, e⟩ := hx.out; rw [← e]; exact du.at _ h
      obtain ⟨s, g5⟩ : ∃ s, s = (x + v + ca) % 18446744073709551616 := ⟨_, rfl⟩
      obtain ⟨ca', g6⟩ : ∃ ca', ca' = (x + v + ca) / 18446744073709551616 := ⟨_, rfl⟩
      have st := add_step 18446744073709551616 _ s ca' x v ca _ _ _ hv.out g5 g6
      have hsW : s < 18446744073709551616 := by rw [g5]; exact Nat.mod_lt _ (by omega)
      have hca' : ca' ≤ 1 := by omega
      have a1 := add64_run x v ca hxW hvW hca s ca' g5 g6
      have ST := mkHid st
      clear g5 g6 st
      go_wp2
      go_roundw
      case rel =>
        obtain ⟨hp, ex⟩ := hx.out
        obtain ⟨hp2, ev⟩ := hv'.out
        refine ⟨i + 1, ca', us.set (o + i) s, by omega, hca', rfl, by go_num, ?_, du.set _ _ hsW, ?_, ?_, ?_, hblk.set _ _ hp, grown_set hg _ _⟩
        · show _ = _
          rw [List.length_set]; exact hu.out
        · show _ = _
          rw [List.take_set_of_le (by omega)]; exact ht.out
        · show _ = _
          rw [← Nat.add_assoc, drop_set_succ]
          exact drop_succ_of_drop hd.out
        · show _ = _
          have hzl : o + i < zs.length := by rw [← hu.out]; exact hp
          have exz := getElem_of_drop hd.out hp hzl
          rw [seg_set _ _ _ _ hp, seg_succ _ _ _ hzl, val_snoc, val_snoc, seg_length _ _ _ (by omega), seg_length _ _ _ (by omega), val_take_succ _ _ _ hp2, ev, ← exz, ex, Nat.pow_succ]
          exact ST.out
      case measure => simp [intOf]; omega
    · obtain rfl : i = n := by omega
      obtain ⟨x, hcx, hfx, hx⟩ := hblk.get (o + i) (by rw [hu.out]; have := HO.out; omega)
      have hxW : x < 18446744073709551616 := by obtain ⟨h, e⟩ := hx.out; rw [← e]; exact du.at _ h
      obtain ⟨s, g5⟩ : ∃ s, s = (x + ca) % 18446744073709551616 := ⟨_, rfl⟩
      obtain ⟨k, g6⟩ : ∃ k, k = (x + ca) / 18446744073709551616 := ⟨_, rfl⟩
      have st := gives_last 18446744073709551616 _ _ _ _ x s ca k hv.out g5 g6
      have hsW : s < 18446744073709551616 := by rw [g5]; exact Nat.mod_lt _ (by omega)
      have w1 : IntKind.u64.wrap ((x : Int) + (ca : Int)) = (s : Int) := by rw [IntKind.wrap_u64]; omega
      have ST := mkHid st
      clear g5 g6 st
      go_wp2
      go_end0
      obtain ⟨hp, ex⟩ := hx.out
      have hzl : o + i < zs.length := by rw [← hu.out]; exact hp
      have exz := getElem_of_drop hd.out hp hzl
      refine ⟨k, us.set (o + i) s, rfl, by rw [List.length_set]; exact hu.out, du.set _ _ hsW, by rw [List.take_set_of_le (by omega)]; exact ht.out, by rw [drop_set_succ]; exact drop_succ_of_drop hd.out, ?_, hblk.set _ _ hp, grown_set hg _ _⟩
      rw [seg_set _ _ _ _ hp, seg_succ _ _ _ hzl, val_snoc, val_snoc, seg_length _ _ _ (by omega), seg_length _ _ _ (by omega), ← exz, ex, Nat.pow_succ]
      have e6 := ST.out
      rw [List.take_of_length_le (l := Y) (by rw [HYL.out]; omega)] at e6
      exact e6

end Go.Proofs.YtaeamlldocbeeaaDoor

/- limb: Quo. -/

namespace Go.Proofs.YtaeamlldocbeeaaDoor
open Go.RowKit Num

/-- two slices of their own memory, and a bool, are the results -/
def GivesQ (w : World) (q r : List Nat) (ok : Bool) (e : Ending) (w' : World) : Prop :=
  ∃ a1 n1 c1 a2 n2 c2, e = .returned (.tuple #[.slice a1 n1 c1, .slice a2 n2 c2, .bool ok]) ∧ Own .u64 47 w.heap.size w' a1 n1 c1 q ∧ Own .u64 47 w.heap.size w' a2 n2 c2 r ∧ Below w.heap.size w w'

theorem cmp_less {a b : Nat} : decide (cmpI a b < 0) = decide (a < b) := by
  unfold cmpI
  by_cases h : a < b
  · rw [if_pos h]; simp [h]
  · rw [if_neg h]; split <;> simp [h]

theorem quo_zero {a1 a2 : Option Addr} {n1 c1 n2 c2 : Nat} {xs ys : List Nat} {w : World} (h1 : Sl .u64 w a1 n1 c1 xs) (h2 : Sl .u64 w a2 n2 c2 ys) (hd1 : Dg 18446744073709551616 xs) (hd2 : Dg 18446744073709551616 ys)
    (hv : val 18446744073709551616 ys = 0) :
    Calls Tryd.prog 25 #[.slice a1 n1 c1, .slice a2 n2 c2] w (GivesQ w [] [] false) := by
  have HV := mkHid hv
  clear hv
  go_enter Tryd.func25, Tryd.ntmps25
  go_upto_if 22 with (first
    | (go_at_call 38; (with_reducible refine (trim_sl h1 hd1).mono ?_); rintro e w' ⟨k1, rfl, hm1, hX, rfl⟩)
    | (go_at_call 38; (with_reducible refine (trim_sl h2 hd2).mono ?_); rintro e w' ⟨k2, rfl, hm2, hY, rfl⟩))
  obtain rfl : k2 = 0 := by rw [← hY.len, HV.out]; rfl
  go_wp2
  refine bodyPost_ret (v := .tuple #[.slice none 0 0, .slice none 0 0, .bool false]) (by simp [results, Tryd.results25, go_sem]) rfl ?_
  exact ⟨none, 0, 0, none, 0, 0, rfl, Own.nilOwn _ _ _ _, Own.nilOwn _ _ _ _, Below.refl _ _⟩

theorem quo_less {a1 a2 : Option Addr} {n1 c1 n2 c2 : Nat} {xs ys : List Nat} {w : World} (h1 : Sl .u64 w a1 n1 c1 xs) (h2 : Sl .u64 w a2 n2 c2 ys) (hd1 : Dg 18446744073709551616 xs) (hd2 : Dg 18446744073709551616 ys)
    (hn1 : n1 ≤ 1099511627776) (hv : val 18446744073709551616 xs < val 18446744073709551616 ys) :
    Calls Tryd.prog 25 #[.slice a1 n1 c1, .slice a2 n2 c2] w (GivesQ w [] (dig 18446744073709551616 (val 18446744073709551616 xs)) true) := by
  go_enter Tryd.func25, Tryd.ntmps25
  go_upto_if 22 with (first
    | (go_at_call 38; (with_reducible refine (trim_sl h1 hd1).mono ?_); rintro e w' ⟨k1, rfl, hm1, hX, rfl⟩)
    | (go_at_call 38; (with_reducible refine (trim_sl h2 hd2).mono ?_); rintro e w' ⟨k2, rfl, hm2, hY, rfl⟩))
  have hk2 : 0 < k2 := by
    rw [← hY.len]
    exact (lt_dig_length _ (by omega) 0 _).2 (by rw [Nat.pow_zero]; omega)
  have t1 : ((k2 : Int) == 0) = false := beq_f (n := 0) (by omega)
  have t2 : Hid (decide (cmpI (val 18446744073709551616 xs) (val 18446744073709551616 ys) < 0) = true) := by show _ = _; rw [cmp_less]; exact decide_eq_true hv
  go_upto_if 26 with (first
    | (go_at_call 40; (with_reducible refine (cmp_any hX hY (Dg.dig _ (by omega) _) (Dg.dig _ (by omega) _) (by omega)).mono ?_); rintro e w1 ⟨rfl, hb1⟩))
  rw [val_dig _ (by omega), val_dig _ (by omega), t2.out]
  go_wp2_with (first
    | (go_at_call 41; (with_reducible refine (made_any (hX.keep hb1) (Dg.dig _ (by omega) _) (by omega)).mono ?_); rintro e w2 ⟨a3, n3, c3, rfl, ho, hb2⟩))
  refine bodyPost_ret (v := .tuple #[.slice none 0 0, .slice a3 n3 c3, .bool true]) (by simp [results, Tryd.results25, go_sem]) rfl ?_
  rw [val_dig _ (by omega)] at ho
  exact ⟨none, 0, 0, a3, n3, c3, rfl, Own.nilOwn _ _ _ _, ho.mono hb1.size, hb1.trans (hb2.mono hb1.size)⟩

theorem quo_one {a1 a2 : Option Addr} {n1 c1 n2 c2 : Nat} {xs ys : List Nat} {w : World} (h1 : Sl .u64 w a1 n1 c1 xs) (h2 : Sl .u64 w a2 n2 c2 ys) (hd1 : Dg 18446744073709551616 xs) (hd2 : Dg 18446744073709551616 ys)
    (hn1 : n1 ≤ 1099511627776) (hv : val 18446744073709551616 ys ≤ val 18446744073709551616 xs) (h0 : 0 < val 18446744073709551616 ys) (hW : val 18446744073709551616 ys < 18446744073709551616) :
    Calls Tryd.prog 25 #[.slice a1 n1 c1, .slice a2 n2 c2] w (GivesQ w (dig 18446744073709551616 (val 18446744073709551616 xs / val 18446744073709551616 ys)) (dig 18446744073709551616 (val 18446744073709551616 xs % val 18446744073709551616 ys)) true) := by
  go_enter Tryd.func25, Tryd.ntmps25
  go_upto_if 22 with (first
    | (go_at_call 38; (with_reducible refine (trim_sl h1 hd1).mono ?_); rintro e w' ⟨k1, rfl, hm1, hX, rfl⟩)
    | (go_at_call 38; (with_reducible refine (trim_sl h2 hd2).mono ?_); rintro e w' ⟨k2, rfl, hm2, hY, rfl⟩))
  rw [dig_lt_base _ (by omega) hW (by omega)] at hY
  obtain rfl : k2 = 1 := hY.len.symm
  have t2 : Hid (decide (cmpI (val 18446744073709551616 xs) (val 18446744073709551616 ys) < 0) = false) := by show _ = _; rw [cmp_less]; exact decide_eq_false (by omega)
  have dX := Dg.dig 18446744073709551616 (by omega) (val 18446744073709551616 xs)
  have vX := mkHid (val_dig 18446744073709551616 (by omega) (val 18446744073709551616 xs))
  go_upto_if 26 with (first
    | (go_at_call 40; (with_reducible refine (cmp_any hX hY dX (Dg.cons hW Dg.nil) (by omega)).mono ?_); rintro e w1 ⟨rfl, hb1⟩))
  rw [vX.out, val_single, t2.out]
  obtain ⟨b2, o2, y, rfl, hcy, hy⟩ := (hY.keep hb1).get 0 (by omega)
  rw [Nat.add_zero] at hcy
  have hyv : y = val 18446744073709551616 ys := by obtain ⟨_, e⟩ := hy.out; rw [← e]; rfl
  have HYV := mkHid hyv
  have hy0 : 0 < y := by omega
  have hyW : y < 18446744073709551616 := by omega
  clear hyv
  have hsm := mkHid (small_any (hX.keep hb1) dX (by omega) y hy0 hyW)
  have hrW : val 18446744073709551616 (dig 18446744073709551616 (val 18446744073709551616 xs)) % y < 18446744073709551616 := Nat.lt_trans (Nat.mod_lt _ hy0) hyW
  obtain ⟨r, hr⟩ : ∃ r, r = val 18446744073709551616 (dig 18446744073709551616 (val 18446744073709551616 xs)) % y := ⟨_, rfl⟩
  rw [← hr] at hsm hrW
  have HR := mkHid hr
  clear hr
  go_wp2_with (first
    | (go_at_call 42; (with_reducible refine hsm.out.mono ?_); rintro e w2 ⟨a3, n3, c3, rfl, ho, hb2⟩)
    | (go_at_call 43; (with_reducible refine (of_any r hrW _).mono ?_); rintro e w3 ⟨a4, n4, c4, rfl, ho2, hb3⟩))
  refine bodyPost_ret (v := .tuple #[.slice a3 n3 c3, .slice a4 n4 c4, .bool true]) (by simp [results, Tryd.results25, go_sem]) rfl ?_
  have hs12 := hb1.size
  have hs23 := hb2.size
  rw [vX.out, HYV.out] at ho
  rw [HR.out, vX.out, HYV.out] at ho2
  exact ⟨a3, n3, c3, a4, n4, c4, rfl, (ho.keep hb3).mono hs12, ho2.mono (by omega), hb1.trans ((hb2.trans (hb3.mono hs23)).mono hs12)⟩

end Go.Proofs.YtaeamlldocbeeaaDoor
