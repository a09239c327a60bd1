/- RefB: Ref4, Ref5. -/
import Derived.Test.YtaeamlldocbeeaaRefA
import Derived.Test.YtaeamlldocbeeaaLimbA

/- baileyref1: Sub. -/

namespace Go.Proofs.Ytaeamlldocbeeaa
open Go.RowKit Num

set_option maxHeartbeats 400000 in
theorem rsub_any {a1 a2 : Option Addr} {n1 c1 n2 c2 u v : Nat} {w : World} (h1 : Sl .u64 w a1 n1 c1 (dig 4294967296 u)) (h2 : Sl .u64 w a2 n2 c2 (dig 4294967296 v)) (hn1 : n1 ≤ 1099511627776) (huv : v ≤ u) :
    Calls Try.prog 39 #[.slice a1 n1 c1, .slice a2 n2 c2] w (GivesR w (u - v)) := by
  have dX := Dg.dig 4294967296 (by omega) u
  have dY := Dg.dig 4294967296 (by omega) v
  have vX := mkHid (val_dig 4294967296 (by omega) u)
  have vY := mkHid (val_dig 4294967296 (by omega) v)
  have hl1 := mkHid h1.len
  have hl2 := mkHid h2.len
  have hn21 : n2 ≤ n1 := by rw [← h1.len, ← h2.len]; exact dig_length_mono _ (by omega) huv
  generalize dig 4294967296 u = X at *
  generalize dig 4294967296 v = Y at *
  go_enter Try.func39, Try.ntmps39
  go_wp2_with (first
    | (at_make; refine wpList_mk rfl _ _ _ rfl 54 .u64 8 under_ref info_u64 n1 rfl rfl (by omega) (by omega) (by omega) (by omega) ?_; intro b w2 hB hblk hbel))
  go_loopw [6, 7] (fun cv iv wr => ∃ (i bo : Nat) (zs : List Nat), i ≤ n1 ∧ bo ≤ 1 ∧ cv = .int .u64 bo ∧ iv = .int .i64 i ∧ Hid (zs.length = i) ∧ Dg 4294967296 zs ∧
      Hid (val 4294967296 zs + val 4294967296 (Y.take i) = val 4294967296 (X.take i) + 4294967296 ^ i * bo) ∧ Blk wr b .u64 54 (zs ++ List.replicate (n1 - i) 0) ∧ Below w.heap.size w wr) (fun _ iv _ => n1 - (intOf iv).toNat)
  case atStart => exact ⟨0, 0, [], Nat.zero_le _, Nat.zero_le _, rfl, rfl, rfl, Dg.nil, rfl, by simpa using hblk, hbel⟩
  case round =>
    clear hblk hbel
    obtain ⟨i, bo, zs, hi, hbo, rfl, rfl, hz, dz, hv, hblk, hbel⟩ := hrel
    by_cases hlt : i < n1
    · obtain ⟨z0, hcb, hfb, _⟩ := hblk.get i (by rw [length_grow zs i n1 0 hz.out (by omega)]; omega)
      obtain ⟨b1, o1, x, rfl, hcx, hx⟩ := (h1.keep hbel).get i hlt
      have hxV : x < 4294967296 := by obtain ⟨h, e⟩ := hx.out; rw [← e]; exact dX.at _ h
      by_cases g2 : i < n2
      · have t2 : decide (i < n2) = true := decide_eq_true g2
        obtain ⟨b2, o2, y, rfl, hcy, hy⟩ := (h2.keep hbel).get i g2
        have hyV : y < 4294967296 := by obtain ⟨h, e⟩ := hy.out; rw [← e]; exact dY.at _ h
        by_cases hls : x < y + bo
        · have hs : Hid (Y.getD i 0 = y) := by
            show _ = _
            obtain ⟨hh, e⟩ := hy.out; rw [← e]; simp [List.getD, hh]
          have t3 : decide ((x : Int) < (bo : Int) + (y : Int)) = true := decide_eq_true (by omega)
          obtain ⟨s, hs5⟩ : ∃ s, s = (x + 4294967296 - y - bo) % 4294967296 := ⟨_, rfl⟩
          obtain ⟨k, hk6⟩ : ∃ k, k = if x < y + bo then 1 else 0 := ⟨_, rfl⟩
          have hk7 : k = 1 := by rw [hk6]; rw [if_pos (by omega)]
          have e1 : ((x : Int) + 4294967296) - ((bo : Int) + (y : Int)) = (s : Int) := by omega
          have hsV : s < 4294967296 := by omega
          have st := mkHid (sub_step 4294967296 _ s k x y bo _ _ _ hv.out hxV (by omega) hbo hs5 hk6)
          subst hk7
          clear hs5 hk6
          go_wp2
          go_roundw
          case rel =>
            refine ⟨i + 1, 1, zs ++ [s], by omega, by omega, rfl, by go_num, ?_, dz.snoc hsV, ?_, ?_, ?_⟩
            · show _ = _
              rw [List.length_append, hz.out]; rfl
            · show _ = _
              obtain ⟨h, e⟩ := hx.out
              rw [val_snoc, hz.out, val_take_succ _ _ _ h, e, val_take_getD, hs.out, Nat.pow_succ]
              exact st.out
            · have := hblk.set i s
              rw [set_grow zs i n1 s 0 hz.out (by omega)] at this
              first | exact this | (rw [e1]; exact this) | (rw [← e1] at this; exact this)
            · exact hbel.setCell hB _
          case measure => simp [intOf]; omega
        · have hs : Hid (Y.getD i 0 = y) := by
            show _ = _
            obtain ⟨hh, e⟩ := hy.out; rw [← e]; simp [List.getD, hh]
          have t3 : decide ((x : Int) < (bo : Int) + (y : Int)) = false := decide_eq_false (by omega)
          obtain ⟨s, hs5⟩ : ∃ s, s = (x + 4294967296 - y - bo) % 4294967296 := ⟨_, rfl⟩
          obtain ⟨k, hk6⟩ : ∃ k, k = if x < y + bo then 1 else 0 := ⟨_, rfl⟩
          have hk7 : k = 0 := by rw [hk6]; rw [if_neg (by omega)]
          have e1 : (x : Int) - ((bo : Int) + (y : Int)) = (s : Int) := by omega
          have hsV : s < 4294967296 := by omega
          have st := mkHid (sub_step 4294967296 _ s k x y bo _ _ _ hv.out hxV (by omega) hbo hs5 hk6)
          subst hk7
          clear hs5 hk6
          go_wp2
          go_roundw
          case rel =>
            refine ⟨i + 1, 0, zs ++ [s], by omega, by omega, rfl, by go_num, ?_, dz.snoc hsV, ?_, ?_, ?_⟩
            · show _ = _
              rw [List.length_append, hz.out]; rfl
            · show _ = _
              obtain ⟨h, e⟩ := hx.out
              rw [val_snoc, hz.out, val_take_succ _ _ _ h, e, val_take_getD, hs.out, Nat.pow_succ]
              exact st.out
            · have := hblk.set i s
              rw [set_grow zs i n1 s 0 hz.out (by omega)] at this
              first | exact this | (rw [e1]; exact this) | (rw [← e1] at this; exact this)
            · exact hbel.setCell hB _
          case measure => simp [intOf]; omega
      · have t2 : decide (i < n2) = false := decide_eq_false g2
        by_cases hls : x < 0 + bo
        · have hs : Hid (Y.getD i 0 = 0) := by
            show _ = _
            simp [List.getD, show Y.length ≤ i by rw [hl2.out]; omega]
          have t3 : decide (x < bo) = true := decide_eq_true (by omega)
          obtain ⟨s, hs5⟩ : ∃ s, s = (x + 4294967296 - 0 - bo) % 4294967296 := ⟨_, rfl⟩
          obtain ⟨k, hk6⟩ : ∃ k, k = if x < 0 + bo then 1 else 0 := ⟨_, rfl⟩
          have hk7 : k = 1 := by rw [hk6]; rw [if_pos (by omega)]
          have e1 : ((x : Int) + 4294967296) - (bo : Int) = (s : Int) := by omega
          have hsV : s < 4294967296 := by omega
          have st := mkHid (sub_step 4294967296 _ s k x 0 bo _ _ _ hv.out hxV (by omega) hbo hs5 hk6)
          subst hk7
          clear hs5 hk6
          go_wp2
          go_roundw
          case rel =>
            refine ⟨i + 1, 1, zs ++ [s], by omega, by omega, rfl, by go_num, ?_, dz.snoc hsV, ?_, ?_, ?_⟩
            · show _ = _
              rw [List.length_append, hz.out]; rfl
            · show _ = _
              obtain ⟨h, e⟩ := hx.out
              rw [val_snoc, hz.out, val_take_succ _ _ _ h, e, val_take_getD, hs.out, Nat.pow_succ]
              exact st.out
            · have := hblk.set i s
              rw [set_grow zs i n1 s 0 hz.out (by omega)] at this
              first | exact this | (rw [e1]; exact this) | (rw [← e1] at this; exact this)
            · exact hbel.setCell hB _
          case measure => simp [intOf]; omega
        · have hs : Hid (Y.getD i 0 = 0) := by
            show _ = _
            simp [List.getD, show Y.length ≤ i by rw [hl2.out]; omega]
          have t3 : decide (x < bo) = false := decide_eq_false (by omega)
          obtain ⟨s, hs5⟩ : ∃ s, s = (x + 4294967296 - 0 - bo) % 4294967296 := ⟨_, rfl⟩
          obtain ⟨k, hk6⟩ : ∃ k, k = if x < 0 + bo then 1 else 0 := ⟨_, rfl⟩
          have hk7 : k = 0 := by rw [hk6]; rw [if_neg (by omega)]
          have e1 : (x : Int) - (bo : Int) = (s : Int) := by omega
          have hsV : s < 4294967296 := by omega
          have st := mkHid (sub_step 4294967296 _ s k x 0 bo _ _ _ hv.out hxV (by omega) hbo hs5 hk6)
          subst hk7
          clear hs5 hk6
          go_wp2
          go_roundw
          case rel =>
            refine ⟨i + 1, 0, zs ++ [s], by omega, by omega, rfl, by go_num, ?_, dz.snoc hsV, ?_, ?_, ?_⟩
            · show _ = _
              rw [List.length_append, hz.out]; rfl
            · show _ = _
              obtain ⟨h, e⟩ := hx.out
              rw [val_snoc, hz.out, val_take_succ _ _ _ h, e, val_take_getD, hs.out, Nat.pow_succ]
              exact st.out
            · have := hblk.set i s
              rw [set_grow zs i n1 s 0 hz.out (by omega)] at this
              first | exact this | (rw [e1]; exact this) | (rw [← e1] at this; exact this)
            · exact hbel.setCell hB _
          case measure => simp [intOf]; omega
    · obtain rfl : i = n1 := by omega
      rw [Nat.sub_self, List.replicate_zero, List.append_nil] at hblk
      have hval : Hid (val 4294967296 zs = u - v) := by
        show _ = _
        have e1 := hv.out
        have z1 := val_lt dz
        rw [hz.out] at z1
        rw [List.take_of_length_le (l := Y) (by rw [hl2.out]; omega), List.take_of_length_le (l := X) (by rw [hl1.out]; omega), vX.out, vY.out] at e1
        have hc0 : bo = 0 := by
          rcases Nat.eq_zero_or_pos bo with h | h
          · exact h
          · obtain rfl : bo = 1 := by omega
            omega
        rw [hc0, Nat.mul_zero, Nat.add_zero] at e1
        omega
      go_wp2_with (go_at_call 58; (with_reducible refine (rtrim_blk hblk hz.out (by omega) dz hB).mono ?_); rintro e w' ⟨m', rfl, hm', ho, rfl⟩)
      go_ret
      exact ⟨_, _, _, rfl, by rw [← hval.out]; exact ho, hbel⟩

end Go.Proofs.Ytaeamlldocbeeaa

/- baileyref1: Mul. -/

namespace Go.Proofs.Ytaeamlldocbeeaa
open Go.RowKit Num

theorem u64_mul_in (a b : Nat) (h : a * b < 18446744073709551616) (c : Nat) (hc : c = a * b) : IntKind.u64.wrap ((a : Int) * (b : Int)) = (c : Int) := by
  rw [IntKind.wrap_u64, ← Int.natCast_mul]; omega

theorem rmul_place (B x y o c : Nat) (hx : x < B) (hy : y < B) (ho : o < B) (hc : c < B) (s lo hi : Nat) (hs : s = x * y + o + c) (h1 : lo = s % B) (h2 : hi = s / B) :
    s < B * B ∧ lo < B ∧ hi < B ∧ lo + B * hi = x * y + o + c := by
  have e5 : x * y ≤ (B - 1) * (B - 1) := Nat.mul_le_mul (by omega) (by omega)
  have e6 : (B - 1) * (B - 1) + (B - 1) + (B - 1) < B * B := by
    obtain ⟨m, rfl⟩ : ∃ m, B = m + 1 := ⟨B - 1, by omega⟩
    rw [Nat.add_sub_cancel, Nat.mul_add, Nat.add_mul]; omega
  have e7 : s < B * B := by omega
  refine ⟨e7, by rw [h1]; exact Nat.mod_lt _ (by omega), by rw [h2]; exact Nat.div_lt_of_lt_mul e7, by rw [h1, h2, ← hs]; exact Nat.mod_add_div _ _⟩

set_option maxHeartbeats 1000000 in
theorem rmul_any {a1 a2 : Option Addr} {n1 c1 n2 c2 u v : Nat} {w : World} (h1 : Sl .u64 w a1 n1 c1 (dig 4294967296 u)) (h2 : Sl .u64 w a2 n2 c2 (dig 4294967296 v)) (hn1 : n1 ≤ 1099511627776) (hn2 : n2 ≤ 1099511627776) :
    Calls Try.prog 19 #[.slice a1 n1 c1, .slice a2 n2 c2] w (GivesR w (u * v)) := by
  have dX := Dg.dig 4294967296 (by omega) u
  have dY := Dg.dig 4294967296 (by omega) v
  have vX := mkHid (val_dig 4294967296 (by omega) u)
  have vY := mkHid (val_dig 4294967296 (by omega) v)
  have hl1 := mkHid h1.len
  have hl2 := mkHid h2.len
  generalize dig 4294967296 u = X at *
  generalize dig 4294967296 v = Y at *
  go_enter Try.func19, Try.ntmps19
  go_wp2_with (first
    | (at_make; refine wpList_mk rfl _ _ _ rfl 54 .u64 8 under_ref info_u64 (n1 + n2) rfl rfl (by omega) (by omega) (by omega) (by omega) ?_; intro b w2 hB hblk hbel))
  go_loopw [6] (fun iv wr => ∃ (i : Nat) (zs : List Nat), i ≤ n1 ∧ iv = .int .i64 i ∧ Hid (zs.length = n1 + n2) ∧ Dg 4294967296 zs ∧
      Hid (val 4294967296 zs = val 4294967296 (X.take i) * val 4294967296 Y) ∧ Hid (∀ p, i + n2 ≤ p → zs.getD p 0 = 0) ∧ Blk wr b .u64 54 zs ∧ Below w.heap.size w wr) (fun iv _ => n1 - (intOf iv).toNat)
  case atStart =>
    refine ⟨0, _, Nat.zero_le _, rfl, ?_, Dg.replicate (by omega) _, ?_, ?_, hblk, hbel⟩
    · show _ = _
      simp
    · show _ = _
      simp [val_replicate, val]
    · intro p _
      simp [List.getD, List.getElem?_replicate]
      split <;> rfl
  case round =>
    clear hblk hbel
    obtain ⟨i, zs, hi, rfl, hz, dz, hv, h0, hblk, hbel⟩ := hrel
    obtain ⟨wo, hwo⟩ : ∃ wo, wo = wr := ⟨_, rfl⟩
    subst hwo
    by_cases hlt : i < n1
    · obtain ⟨b1, o1, x, rfl, hcx, hx⟩ := (h1.keep hbel).get i hlt
      have hxV : x < 4294967296 := by obtain ⟨h, e⟩ := hx.out; rw [← e]; exact dX.at i h
      go_wp2
      go_loopw [7, 9] (fun cv jv wr => ∃ (j c : Nat) (us : List Nat), j ≤ n2 ∧ c < 4294967296 ∧ cv = .int .u64 c ∧ jv = .int .i64 j ∧ Hid (us.length = n1 + n2) ∧ Dg 4294967296 us ∧
        Hid (val 4294967296 us + 4294967296 ^ (i + j) * c = val 4294967296 zs + 4294967296 ^ i * (x * val 4294967296 (Y.take j))) ∧ Hid (∀ p, i + n2 ≤ p → us.getD p 0 = 0) ∧ Blk wr b .u64 54 us ∧ Below w.heap.size w wr) (fun _ jv _ => n2 - (intOf jv).toNat)
      case atStart =>
        exact ⟨0, 0, zs, Nat.zero_le _, by omega, rfl, rfl, hz, dz, by show _ = _; simp [val], h0, hblk, hbel⟩
      case round =>
        clear hblk hbel hcx
        obtain ⟨j, c, us, hj, hc, rfl, rfl, hu, du, hv2, h2', hblk, hbel⟩ := hrel
        by_cases hlt2 : j < n2
        · obtain ⟨b2, o2, y, rfl, hcy, hy⟩ := (h2.keep hbel).get j hlt2
          have hyV : y < 4294967296 := by obtain ⟨h, e⟩ := hy.out; rw [← e]; exact dY.at j h
          obtain ⟨o, hco, hfo, ho⟩ := hblk.get (i + j) (by rw [hu.out]; omega)
          have hoV : o < 4294967296 := by obtain ⟨h, e⟩ := ho.out; rw [← e]; exact du.at _ h
          obtain ⟨p, hp⟩ : ∃ p, p = x * y := ⟨_, rfl⟩
          obtain ⟨s, hs⟩ : ∃ s, s = c + (o + p) := ⟨_, rfl⟩
          obtain ⟨lo, hlo⟩ : ∃ lo, lo = s % 4294967296 := ⟨_, rfl⟩
          obtain ⟨hh, hhi⟩ : ∃ hh, hh = s / 4294967296 := ⟨_, rfl⟩
          obtain ⟨q1, q2, q3, q4⟩ := rmul_place 4294967296 x y o c hxV hyV hoV hc s lo hh (by omega) hlo hhi
          have hsW : s < 18446744073709551616 := q1
          have f1 := u64_mul_in x y (by omega) p hp
          have f3 : IntKind.u64.wrap ((c : Int) + ((o : Int) + (p : Int))) = (s : Int) := by rw [← Int.natCast_add]; exact u64_in c (o + p) (by omega) s hs
          have hp64 : o + p < 18446744073709551616 := by omega
          have f4 : (s : Int) % 4294967296 = (lo : Int) := by omega
          have f5 : (s : Int) / 4294967296 = (hh : Int) := by omega
          have HE := mkHid q4
          have HP := mkHid hp
          have HS := mkHid hs
          clear hlo hhi q1 q4 hp hs
          go_upto_region 10 with (fail)
          go_quiet (fail)
          go_wp2
          go_roundw
          case rel =>
            refine ⟨j + 1, hh, us.set (i + j) lo, by omega, q3, rfl, by go_num, ?_, du.set _ _ q2, ?_, ?_, (hblk.drewN nq).set _ _, (hbel.trans (below_drewN _ wr nq)).setCell hB _⟩
            · show _ = _
              rw [List.length_set]; exact hu.out
            · show _ = _
              obtain ⟨h, e⟩ := ho.out
              obtain ⟨hh, e2⟩ := hy.out
              have e3 := val_set 4294967296 us (i + j) lo h
              rw [e] at e3
              rw [val_take_succ _ _ _ hh, e2, Nat.mul_add x, Nat.mul_add, ← Nat.mul_assoc x, Nat.mul_comm x (4294967296 ^ j), Nat.mul_assoc (4294967296 ^ j), ← Nat.mul_assoc (4294967296 ^ i) (4294967296 ^ j), ← Nat.pow_add, ← Nat.add_assoc i j 1, Nat.pow_succ]
              exact mul_inner _ _ _ _ _ _ _ _ _ _ _ hv2.out HE.out _ e3
            · intro p hp
              have := h2'.out p hp
              simp only [List.getD, List.getElem?_set]
              rw [if_neg (by omega)]
              exact this
          case measure => simp [intOf]; omega
        · obtain rfl : j = n2 := by omega
          obtain ⟨o, hco, hfo, ho⟩ := hblk.get (i + j) (by rw [hu.out]; omega)
          go_wp2
          go_roundw
          case rel =>
            refine ⟨i + 1, us.set (i + j) c, by omega, by go_num, ?_, du.set _ _ hc, ?_, ?_, hblk.set _ _, hbel.setCell hB _⟩
            · show _ = _
              rw [List.length_set]; exact hu.out
            · show _ = _
              obtain ⟨h, e⟩ := ho.out
              obtain ⟨hh, e2⟩ := hx.out
              have e3 := val_set 4294967296 us (i + j) c h
              have e4 := h2'.out (i + j) (Nat.le_refl _)
              have e5 : us.getD (i + j) 0 = o := by rw [← e]; simp [List.getD, h]
              rw [e4] at e5
              rw [e, ← e5, Nat.mul_zero, Nat.add_zero] at e3
              have e6 := hv2.out
              rw [List.take_of_length_le (l := Y) (by rw [hl2.out]; omega)] at e6
              rw [e3, e6, hv.out, val_take_succ _ _ _ hh, e2, Nat.add_mul, Nat.mul_assoc]
            · intro p hp
              have := h2'.out p (by omega)
              simp only [List.getD, List.getElem?_set]
              rw [if_neg (by omega)]
              exact this
          case measure => simp [intOf]; omega
    · obtain rfl : i = n1 := by omega
      have hval : Hid (val 4294967296 zs = u * v) := by
        show _ = _
        rw [hv.out, List.take_of_length_le (l := X) (by rw [hl1.out]; omega), vX.out, vY.out]
      go_wp2_with (go_at_call 58; (with_reducible refine (rtrim_blk hblk hz.out (by omega) dz hB).mono ?_); rintro e w' ⟨m', rfl, hm', ho, rfl⟩)
      go_ret
      exact ⟨_, _, _, rfl, by rw [← hval.out]; exact ho, hbel⟩

end Go.Proofs.Ytaeamlldocbeeaa
