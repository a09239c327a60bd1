/- baileyref1: Add, Sub, Mul. -/
import Derived.Test.YtaeamlldocbeeaaRef2
namespace Go.Proofs.Ytaeamlldocbeeaa
open Go.RowKit Num

set_option maxHeartbeats 400000 in
theorem radd_any {a1 a2 : Option Addr} {n1 c1 n2 c2 u v : Nat} {w : World} (h1 : Sl .u64 w a1 n1 c1 (dig 4294967296 u)) (h2 : Sl .u64 w a2 n2 c2 (dig 4294967296 v)) (hn1 : n1 ≤ 1099511627776) (hn2 : n2 ≤ 1099511627776) :
    Calls Try.prog 18 #[.slice a1 n1 c1, .slice a2 n2 c2] w (GivesR w (u + v)) := by
  have dX := Dg.dig 4294967296 (by omega) u
  have dY := Dg.dig 4294967296 (by omega) v
  have vX := mkHid (val_dig 4294967296 (by omega) u)
  have vY := mkHid (val_dig 4294967296 (by omega) v)
  have hl1 := mkHid h1.len
  have hl2 := mkHid h2.len
  generalize dig 4294967296 u = X at *
  generalize dig 4294967296 v = Y at *
  obtain ⟨N, hN⟩ : ∃ N, N = max n1 n2 := ⟨_, rfl⟩
  have hN1 : n1 ≤ N ∧ n2 ≤ N ∧ N ≤ 1099511627776 := by omega
  have HN := mkHid hN
  clear hN
  go_enter Try.func18, Try.ntmps18
  go_upto_if 14 with (fail)
  go_cut [5] (fun x wc => x = .int .i64 N ∧ w = wc)
  case first =>
    by_cases hlt : n1 < n2
    · have t : decide (n1 < n2) = true := decide_eq_true hlt
      have hN : Hid (N = n2) := by have := HN.out; show _ = _; omega
      go_wp2
      go_meet
      case rel => exact ⟨by rw [hN.out], rfl⟩
    · have t : decide (n1 < n2) = false := decide_eq_false hlt
      have hN : Hid (N = n1) := by have := HN.out; show _ = _; omega
      go_wp2
      go_meet
      case rel => exact ⟨by rw [hN.out], rfl⟩
  case rest =>
  obtain ⟨rfl, rfl⟩ := hcut
  go_wp2_with (first
    | (at_make; refine wpList_mk rfl _ _ _ rfl 54 .u64 8 under_ref info_u64 (N + 1) rfl rfl (by omega) (by omega) (by omega) (by omega) ?_; intro b w2 hB hblk hbel))
  go_loopw [7, 8] (fun cv iv wr => ∃ (i c : Nat) (zs : List Nat), i ≤ N + 1 ∧ c ≤ 1 ∧ cv = .int .u64 c ∧ iv = .int .i64 i ∧ Hid (zs.length = i) ∧ Dg 4294967296 zs ∧
      Hid (val 4294967296 zs + 4294967296 ^ i * c = val 4294967296 (X.take i) + val 4294967296 (Y.take i)) ∧ Blk wr b .u64 54 (zs ++ List.replicate (N + 1 - i) 0) ∧ Below w.heap.size w wr) (fun _ iv _ => N + 1 - (intOf iv).toNat)
  case atStart => exact ⟨0, 0, [], Nat.zero_le _, Nat.zero_le _, rfl, rfl, rfl, Dg.nil, rfl, by simpa using hblk, hbel⟩
  case round =>
    clear hblk hbel
    obtain ⟨i, c, zs, hi, hc, rfl, rfl, hz, dz, hv, hblk, hbel⟩ := hrel
    by_cases hlt : i ≤ N
    · have t0 : decide (i ≤ N) = true := decide_eq_true hlt
      obtain ⟨z0, hcb, hfb, _⟩ := hblk.get i (by rw [length_grow zs i (N + 1) 0 hz.out (by omega)]; omega)
      by_cases g1 : i < n1
      · have t1 : decide (i < n1) = true := decide_eq_true g1
        obtain ⟨b1, o1, x, rfl, hcx, hx⟩ := (h1.keep hbel).get i g1
        have hxV : x < 4294967296 := by obtain ⟨h, e⟩ := hx.out; rw [← e]; exact dX.at _ h
        by_cases g2 : i < n2
        · have t2 : decide (i < n2) = true := decide_eq_true g2
          obtain ⟨b2, o2, y, rfl, hcy, hy⟩ := (h2.keep hbel).get i g2
          have hyV : y < 4294967296 := by obtain ⟨h, e⟩ := hy.out; rw [← e]; exact dY.at _ h
          have hs : Hid (X.getD i 0 = x ∧ Y.getD i 0 = y) := by
            constructor
            · obtain ⟨hh, e⟩ := hx.out; rw [← e]; simp [List.getD, hh]
            · obtain ⟨hh, e⟩ := hy.out; rw [← e]; simp [List.getD, hh]
          obtain ⟨lo, hlo⟩ : ∃ lo, lo = (x + y + c) % 4294967296 := ⟨_, rfl⟩
          obtain ⟨hi', hhi⟩ : ∃ hi, hi = (x + y + c) / 4294967296 := ⟨_, rfl⟩
          have e1 : ((c : Int) + (x : Int) + (y : Int)) % 4294967296 = (lo : Int) := by omega
          have e2 : ((c : Int) + (x : Int) + (y : Int)) / 4294967296 = (hi' : Int) := by omega
          have hloV : lo < 4294967296 := by omega
          have hhi1 : hi' ≤ 1 := by omega
          have st := mkHid (add_step 4294967296 _ lo hi' x y c _ _ _ hv.out hlo hhi)
          clear hlo hhi
          go_wp2
          go_roundw
          case rel =>
            refine ⟨i + 1, hi', zs ++ [lo], by omega, hhi1, by first | rfl | rw [e2], by go_num, ?_, dz.snoc hloV, ?_, ?_, hbel.setCell hB _⟩
            · show _ = _
              rw [List.length_append, hz.out]; rfl
            · show _ = _
              rw [val_snoc, hz.out, val_take_getD, val_take_getD, hs.out.1, hs.out.2, Nat.pow_succ]
              exact st.out
            · have := hblk.set i lo
              rwa [set_grow zs i (N + 1) lo 0 hz.out (by omega)] at this
          case measure => simp [intOf]; omega
        · have t2 : decide (i < n2) = false := decide_eq_false g2
          have hs : Hid (X.getD i 0 = x ∧ Y.getD i 0 = 0) := by
            constructor
            · obtain ⟨hh, e⟩ := hx.out; rw [← e]; simp [List.getD, hh]
            · simp [List.getD, show Y.length ≤ i by rw [hl2.out]; omega]
          obtain ⟨lo, hlo⟩ : ∃ lo, lo = (x + 0 + c) % 4294967296 := ⟨_, rfl⟩
          obtain ⟨hi', hhi⟩ : ∃ hi, hi = (x + 0 + c) / 4294967296 := ⟨_, rfl⟩
          have e1 : ((c : Int) + (x : Int)) % 4294967296 = (lo : Int) := by omega
          have e2 : ((c : Int) + (x : Int)) / 4294967296 = (hi' : Int) := by omega
          have hloV : lo < 4294967296 := by omega
          have hhi1 : hi' ≤ 1 := by omega
          have st := mkHid (add_step 4294967296 _ lo hi' x 0 c _ _ _ hv.out hlo hhi)
          clear hlo hhi
          go_wp2
          go_roundw
          case rel =>
            refine ⟨i + 1, hi', zs ++ [lo], by omega, hhi1, by first | rfl | rw [e2], by go_num, ?_, dz.snoc hloV, ?_, ?_, hbel.setCell hB _⟩
            · show _ = _
              rw [List.length_append, hz.out]; rfl
            · show _ = _
              rw [val_snoc, hz.out, val_take_getD, val_take_getD, hs.out.1, hs.out.2, Nat.pow_succ]
              exact st.out
            · have := hblk.set i lo
              rwa [set_grow zs i (N + 1) lo 0 hz.out (by omega)] at this
          case measure => simp [intOf]; omega
      · have t1 : decide (i < n1) = false := decide_eq_false g1
        by_cases g2 : i < n2
        · have t2 : decide (i < n2) = true := decide_eq_true g2
          obtain ⟨b2, o2, y, rfl, hcy, hy⟩ := (h2.keep hbel).get i g2
          have hyV : y < 4294967296 := by obtain ⟨h, e⟩ := hy.out; rw [← e]; exact dY.at _ h
          have hs : Hid (X.getD i 0 = 0 ∧ Y.getD i 0 = y) := by
            constructor
            · simp [List.getD, show X.length ≤ i by rw [hl1.out]; omega]
            · obtain ⟨hh, e⟩ := hy.out; rw [← e]; simp [List.getD, hh]
          obtain ⟨lo, hlo⟩ : ∃ lo, lo = (0 + y + c) % 4294967296 := ⟨_, rfl⟩
          obtain ⟨hi', hhi⟩ : ∃ hi, hi = (0 + y + c) / 4294967296 := ⟨_, rfl⟩
          have e1 : ((c : Int) + (y : Int)) % 4294967296 = (lo : Int) := by omega
          have e2 : ((c : Int) + (y : Int)) / 4294967296 = (hi' : Int) := by omega
          have hloV : lo < 4294967296 := by omega
          have hhi1 : hi' ≤ 1 := by omega
          have st := mkHid (add_step 4294967296 _ lo hi' 0 y c _ _ _ hv.out hlo hhi)
          clear hlo hhi
          go_wp2
          go_roundw
          case rel =>
            refine ⟨i + 1, hi', zs ++ [lo], by omega, hhi1, by first | rfl | rw [e2], by go_num, ?_, dz.snoc hloV, ?_, ?_, hbel.setCell hB _⟩
            · show _ = _
              rw [List.length_append, hz.out]; rfl
            · show _ = _
              rw [val_snoc, hz.out, val_take_getD, val_take_getD, hs.out.1, hs.out.2, Nat.pow_succ]
              exact st.out
            · have := hblk.set i lo
              rwa [set_grow zs i (N + 1) lo 0 hz.out (by omega)] at this
          case measure => simp [intOf]; omega
        · have t2 : decide (i < n2) = false := decide_eq_false g2
          have hs : Hid (X.getD i 0 = 0 ∧ Y.getD i 0 = 0) := by
            constructor
            · simp [List.getD, show X.length ≤ i by rw [hl1.out]; omega]
            · simp [List.getD, show Y.length ≤ i by rw [hl2.out]; omega]
          obtain ⟨lo, hlo⟩ : ∃ lo, lo = (0 + 0 + c) % 4294967296 := ⟨_, rfl⟩
          obtain ⟨hi', hhi⟩ : ∃ hi, hi = (0 + 0 + c) / 4294967296 := ⟨_, rfl⟩
          have e1 : ((c : Int)) % 4294967296 = (lo : Int) := by omega
          have e2 : ((c : Int)) / 4294967296 = (hi' : Int) := by omega
          have hloV : lo < 4294967296 := by omega
          have hhi1 : hi' ≤ 1 := by omega
          have st := mkHid (add_step 4294967296 _ lo hi' 0 0 c _ _ _ hv.out hlo hhi)
          clear hlo hhi
          go_wp2
          go_roundw
          case rel =>
            refine ⟨i + 1, hi', zs ++ [lo], by omega, hhi1, by first | rfl | rw [e2], by go_num, ?_, dz.snoc hloV, ?_, ?_, hbel.setCell hB _⟩
            · show _ = _
              rw [List.length_append, hz.out]; rfl
            · show _ = _
              rw [val_snoc, hz.out, val_take_getD, val_take_getD, hs.out.1, hs.out.2, Nat.pow_succ]
              exact st.out
            · have := hblk.set i lo
              rwa [set_grow zs i (N + 1) lo 0 hz.out (by omega)] at this
          case measure => simp [intOf]; omega
    · have t0 : decide (i ≤ N) = false := decide_eq_false hlt
      obtain rfl : i = N + 1 := by omega
      rw [Nat.sub_self, List.replicate_zero, List.append_nil] at hblk
      have hval : Hid (val 4294967296 zs = u + v) := by
        show _ = _
        have e1 := hv.out
        have x1 := val_lt dX
        have y1 := val_lt dY
        rw [hl1.out] at x1
        rw [hl2.out] at y1
        have p1 : 4294967296 ^ n1 ≤ 4294967296 ^ N := Nat.pow_le_pow_right (by omega) hN1.1
        have p2 : 4294967296 ^ n2 ≤ 4294967296 ^ N := Nat.pow_le_pow_right (by omega) hN1.2.1
        rw [List.take_of_length_le (l := X) (by rw [hl1.out]; omega), List.take_of_length_le (l := Y) (by rw [hl2.out]; omega), Nat.pow_succ] at e1
        have hc0 : c = 0 := by
          rcases Nat.eq_zero_or_pos c with h | h
          · exact h
          · obtain rfl : c = 1 := by omega
            omega
        rw [hc0, Nat.mul_zero, Nat.add_zero, vX.out, vY.out] at e1
        exact e1
      go_wp2_with (go_at_call 58; (with_reducible refine (rtrim_blk hblk hz.out (by omega) dz hB).mono ?_); rintro e w' ⟨m', rfl, hm', ho, rfl⟩)
      go_ret
      exact ⟨_, _, _, rfl, by rw [← hval.out]; exact ho, hbel⟩

end Go.Proofs.Ytaeamlldocbeeaa
