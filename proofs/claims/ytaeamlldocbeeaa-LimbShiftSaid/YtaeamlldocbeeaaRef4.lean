/- baileyref1: Sub. -/
import Derived.Test.YtaeamlldocbeeaaRef3
namespace Go.Proofs.Ytaeamlldocbeeaa
open Go.RowKit Num

set_option maxHeartbeats 400000 in
theorem rsub_any {a1 a2 : Option Addr} {n1 c1 n2 c2 u v : Nat} {w : World} (h1 : Sl .u64 w a1 n1 c1 (dig 4294967296 u)) (h2 : Sl .u64 w a2 n2 c2 (dig 4294967296 v)) (hn1 : n1 ≤ 1099511627776) (huv : v ≤ u) :
    Calls Try.prog 39 #[.slice a1 n1 c1, .slice a2 n2 c2] w (GivesR w (u - v)) := by
  have dX := Dg.dig 4294967296 (by omega) u
  have dY := Dg.dig 4294967296 (by omega) v
  have vX := mkHid (val_dig 4294967296 (by omega) u)
  have vY := mkHid (val_dig 4294967296 (by omega) v)
  have hl1 := mkHid h1.len
  have hl2 := mkHid h2.len
  have hn21 : n2 ≤ n1 := by rw [← h1.len, ← h2.len]; exact dig_length_mono _ (by omega) huv
  generalize dig 4294967296 u = X at *
  generalize dig 4294967296 v = Y at *
  go_enter Try.func39, Try.ntmps39
  go_wp2_with (first
    | (at_make; refine wpList_mk rfl _ _ _ rfl 54 .u64 8 under_ref info_u64 n1 rfl rfl (by omega) (by omega) (by omega) (by omega) ?_; intro b w2 hB hblk hbel))
  go_loopw [6, 7] (fun cv iv wr => ∃ (i bo : Nat) (zs : List Nat), i ≤ n1 ∧ bo ≤ 1 ∧ cv = .int .u64 bo ∧ iv = .int .i64 i ∧ Hid (zs.length = i) ∧ Dg 4294967296 zs ∧
      Hid (val 4294967296 zs + val 4294967296 (Y.take i) = val 4294967296 (X.take i) + 4294967296 ^ i * bo) ∧ Blk wr b .u64 54 (zs ++ List.replicate (n1 - i) 0) ∧ Below w.heap.size w wr) (fun _ iv _ => n1 - (intOf iv).toNat)
  case atStart => exact ⟨0, 0, [], Nat.zero_le _, Nat.zero_le _, rfl, rfl, rfl, Dg.nil, rfl, by simpa using hblk, hbel⟩
  case round =>
    clear hblk hbel
    obtain ⟨i, bo, zs, hi, hbo, rfl, rfl, hz, dz, hv, hblk, hbel⟩ := hrel
    by_cases hlt : i < n1
    · obtain ⟨z0, hcb, hfb, _⟩ := hblk.get i (by rw [length_grow zs i n1 0 hz.out (by omega)]; omega)
      obtain ⟨b1, o1, x, rfl, hcx, hx⟩ := (h1.keep hbel).get i hlt
      have hxV : x < 4294967296 := by obtain ⟨h, e⟩ := hx.out; rw [← e]; exact dX.at _ h
      by_cases g2 : i < n2
      · have t2 : decide (i < n2) = true := decide_eq_true g2
        obtain ⟨b2, o2, y, rfl, hcy, hy⟩ := (h2.keep hbel).get i g2
        have hyV : y < 4294967296 := by obtain ⟨h, e⟩ := hy.out; rw [← e]; exact dY.at _ h
        by_cases hls : x < y + bo
        · have hs : Hid (Y.getD i 0 = y) := by
            show _ = _
            obtain ⟨hh, e⟩ := hy.out; rw [← e]; simp [List.getD, hh]
          have t3 : decide ((x : Int) < (bo : Int) + (y : Int)) = true := decide_eq_true (by omega)
          obtain ⟨s, hs5⟩ : ∃ s, s = (x + 4294967296 - y - bo) % 4294967296 := ⟨_, rfl⟩
          obtain ⟨k, hk6⟩ : ∃ k, k = if x < y + bo then 1 else 0 := ⟨_, rfl⟩
          have hk7 : k = 1 := by rw [hk6]; rw [if_pos (by omega)]
          have e1 : ((x : Int) + 4294967296) - ((bo : Int) + (y : Int)) = (s : Int) := by omega
          have hsV : s < 4294967296 := by omega
          have st := mkHid (sub_step 4294967296 _ s k x y bo _ _ _ hv.out hxV (by omega) hbo hs5 hk6)
          subst hk7
          clear hs5 hk6
          go_wp2
          go_roundw
          case rel =>
            refine ⟨i + 1, 1, zs ++ [s], by omega, by omega, rfl, by go_num, ?_, dz.snoc hsV, ?_, ?_, ?_⟩
            · show _ = _
              rw [List.length_append, hz.out]; rfl
            · show _ = _
              obtain ⟨h, e⟩ := hx.out
              rw [val_snoc, hz.out, val_take_succ _ _ _ h, e, val_take_getD, hs.out, Nat.pow_succ]
              exact st.out
            · have := hblk.set i s
              rw [set_grow zs i n1 s 0 hz.out (by omega)] at this
              first | exact this | (rw [e1]; exact this) | (rw [← e1] at this; exact this)
            · exact hbel.setCell hB _
          case measure => simp [intOf]; omega
        · have hs : Hid (Y.getD i 0 = y) := by
            show _ = _
            obtain ⟨hh, e⟩ := hy.out; rw [← e]; simp [List.getD, hh]
          have t3 : decide ((x : Int) < (bo : Int) + (y : Int)) = false := decide_eq_false (by omega)
          obtain ⟨s, hs5⟩ : ∃ s, s = (x + 4294967296 - y - bo) % 4294967296 := ⟨_, rfl⟩
          obtain ⟨k, hk6⟩ : ∃ k, k = if x < y + bo then 1 else 0 := ⟨_, rfl⟩
          have hk7 : k = 0 := by rw [hk6]; rw [if_neg (by omega)]
          have e1 : (x : Int) - ((bo : Int) + (y : Int)) = (s : Int) := by omega
          have hsV : s < 4294967296 := by omega
          have st := mkHid (sub_step 4294967296 _ s k x y bo _ _ _ hv.out hxV (by omega) hbo hs5 hk6)
          subst hk7
          clear hs5 hk6
          go_wp2
          go_roundw
          case rel =>
            refine ⟨i + 1, 0, zs ++ [s], by omega, by omega, rfl, by go_num, ?_, dz.snoc hsV, ?_, ?_, ?_⟩
            · show _ = _
              rw [List.length_append, hz.out]; rfl
            · show _ = _
              obtain ⟨h, e⟩ := hx.out
              rw [val_snoc, hz.out, val_take_succ _ _ _ h, e, val_take_getD, hs.out, Nat.pow_succ]
              exact st.out
            · have := hblk.set i s
              rw [set_grow zs i n1 s 0 hz.out (by omega)] at this
              first | exact this | (rw [e1]; exact this) | (rw [← e1] at this; exact this)
            · exact hbel.setCell hB _
          case measure => simp [intOf]; omega
      · have t2 : decide (i < n2) = false := decide_eq_false g2
        by_cases hls : x < 0 + bo
        · have hs : Hid (Y.getD i 0 = 0) := by
            show _ = _
            simp [List.getD, show Y.length ≤ i by rw [hl2.out]; omega]
          have t3 : decide (x < bo) = true := decide_eq_true (by omega)
          obtain ⟨s, hs5⟩ : ∃ s, s = (x + 4294967296 - 0 - bo) % 4294967296 := ⟨_, rfl⟩
          obtain ⟨k, hk6⟩ : ∃ k, k = if x < 0 + bo then 1 else 0 := ⟨_, rfl⟩
          have hk7 : k = 1 := by rw [hk6]; rw [if_pos (by omega)]
          have e1 : ((x : Int) + 4294967296) - (bo : Int) = (s : Int) := by omega
          have hsV : s < 4294967296 := by omega
          have st := mkHid (sub_step 4294967296 _ s k x 0 bo _ _ _ hv.out hxV (by omega) hbo hs5 hk6)
          subst hk7
          clear hs5 hk6
          go_wp2
          go_roundw
          case rel =>
            refine ⟨i + 1, 1, zs ++ [s], by omega, by omega, rfl, by go_num, ?_, dz.snoc hsV, ?_, ?_, ?_⟩
            · show _ = _
              rw [List.length_append, hz.out]; rfl
            · show _ = _
              obtain ⟨h, e⟩ := hx.out
              rw [val_snoc, hz.out, val_take_succ _ _ _ h, e, val_take_getD, hs.out, Nat.pow_succ]
              exact st.out
            · have := hblk.set i s
              rw [set_grow zs i n1 s 0 hz.out (by omega)] at this
              first | exact this | (rw [e1]; exact this) | (rw [← e1] at this; exact this)
            · exact hbel.setCell hB _
          case measure => simp [intOf]; omega
        · have hs : Hid (Y.getD i 0 = 0) := by
            show _ = _
            simp [List.getD, show Y.length ≤ i by rw [hl2.out]; omega]
          have t3 : decide (x < bo) = false := decide_eq_false (by omega)
          obtain ⟨s, hs5⟩ : ∃ s, s = (x + 4294967296 - 0 - bo) % 4294967296 := ⟨_, rfl⟩
          obtain ⟨k, hk6⟩ : ∃ k, k = if x < 0 + bo then 1 else 0 := ⟨_, rfl⟩
          have hk7 : k = 0 := by rw [hk6]; rw [if_neg (by omega)]
          have e1 : (x : Int) - (bo : Int) = (s : Int) := by omega
          have hsV : s < 4294967296 := by omega
          have st := mkHid (sub_step 4294967296 _ s k x 0 bo _ _ _ hv.out hxV (by omega) hbo hs5 hk6)
          subst hk7
          clear hs5 hk6
          go_wp2
          go_roundw
          case rel =>
            refine ⟨i + 1, 0, zs ++ [s], by omega, by omega, rfl, by go_num, ?_, dz.snoc hsV, ?_, ?_, ?_⟩
            · show _ = _
              rw [List.length_append, hz.out]; rfl
            · show _ = _
              obtain ⟨h, e⟩ := hx.out
              rw [val_snoc, hz.out, val_take_succ _ _ _ h, e, val_take_getD, hs.out, Nat.pow_succ]
              exact st.out
            · have := hblk.set i s
              rw [set_grow zs i n1 s 0 hz.out (by omega)] at this
              first | exact this | (rw [e1]; exact this) | (rw [← e1] at this; exact this)
            · exact hbel.setCell hB _
          case measure => simp [intOf]; omega
    · obtain rfl : i = n1 := by omega
      rw [Nat.sub_self, List.replicate_zero, List.append_nil] at hblk
      have hval : Hid (val 4294967296 zs = u - v) := by
        show _ = _
        have e1 := hv.out
        have z1 := val_lt dz
        rw [hz.out] at z1
        rw [List.take_of_length_le (l := Y) (by rw [hl2.out]; omega), List.take_of_length_le (l := X) (by rw [hl1.out]; omega), vX.out, vY.out] at e1
        have hc0 : bo = 0 := by
          rcases Nat.eq_zero_or_pos bo with h | h
          · exact h
          · obtain rfl : bo = 1 := by omega
            omega
        rw [hc0, Nat.mul_zero, Nat.add_zero] at e1
        omega
      go_wp2_with (go_at_call 58; (with_reducible refine (rtrim_blk hblk hz.out (by omega) dz hB).mono ?_); rintro e w' ⟨m', rfl, hm', ho, rfl⟩)
      go_ret
      exact ⟨_, _, _, rfl, by rw [← hval.out]; exact ho, hbel⟩

end Go.Proofs.Ytaeamlldocbeeaa
