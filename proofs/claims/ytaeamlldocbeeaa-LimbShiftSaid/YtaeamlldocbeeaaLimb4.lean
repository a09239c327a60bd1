/- limb: Mul. -/
import Derived.Test.YtaeamlldocbeeaaLimb3
namespace Go.Proofs.Ytaeamlldocbeeaa
open Go.RowKit Num

theorem mul64_o (x y : Nat) (hx : x < 18446744073709551616) (hy : y < 18446744073709551616) (hi lo : Nat) (h1 : hi = x * y / 18446744073709551616) (h2 : lo = x * y % 18446744073709551616) (w : World) :
    Calls Try.prog 73 #[.int .u64 (x : Int), .int .u64 (y : Int)] w fun e w' =>
      e = .returned (.tuple #[.int .u64 (hi : Int), .int .u64 (lo : Int)]) ∧ w = w' := by
  subst h1; subst h2
  exact mul64_any x y hx hy w

theorem u64_in (a b : Nat) (h : a + b < 18446744073709551616) (c : Nat) (hc : c = a + b) : IntKind.u64.wrap ((a : Int) + (b : Int)) = (c : Int) := by
  rw [IntKind.wrap_u64]; omega

theorem mul_any {a1 a2 : Option Addr} {n1 c1 n2 c2 : Nat} {xs ys : List Nat} {w : World} (h1 : Sl .u64 w a1 n1 c1 xs) (h2 : Sl .u64 w a2 n2 c2 ys) (hd1 : Dg 18446744073709551616 xs) (hd2 : Dg 18446744073709551616 ys)
    (hn1 : n1 ≤ 1099511627776) (hn2 : n2 ≤ 1099511627776) :
    Calls Try.prog 34 #[.slice a1 n1 c1, .slice a2 n2 c2] w (Gives .u64 54 w (dig 18446744073709551616 (val 18446744073709551616 xs * val 18446744073709551616 ys))) := by
  go_enter Try.func34, Try.ntmps34
  go_wp2_with (first
    | (go_at_call 59; (with_reducible refine (trim_sl h1 hd1).mono ?_); rintro e w' ⟨k1, rfl, hm1, hX, rfl⟩)
    | (go_at_call 59; (with_reducible refine (trim_sl h2 hd2).mono ?_); rintro e w' ⟨k2, rfl, hm2, hY, rfl⟩)
    | (at_make; refine wpList_mk rfl _ _ _ rfl 54 .u64 8 under_nat info_u64 (k1 + k2) rfl rfl (by omega) (by omega) (by omega) (by omega) ?_; intro b w2 hB hblk hbel))
  have vX := mkHid (val_dig 18446744073709551616 (by omega) (val 18446744073709551616 xs))
  have vY := mkHid (val_dig 18446744073709551616 (by omega) (val 18446744073709551616 ys))
  have dX := Dg.dig 18446744073709551616 (by omega) (val 18446744073709551616 xs)
  have dY := Dg.dig 18446744073709551616 (by omega) (val 18446744073709551616 ys)
  generalize dig 18446744073709551616 (val 18446744073709551616 xs) = X at *
  generalize dig 18446744073709551616 (val 18446744073709551616 ys) = Y at *
  clear h1 h2 hd1 hd2
  go_loopw [26] (fun iv wr => ∃ (i : Nat) (zs : List Nat), i ≤ k1 ∧ iv = .int .i64 i ∧ Hid (zs.length = k1 + k2) ∧ Dg 18446744073709551616 zs ∧
      Hid (val 18446744073709551616 zs = val 18446744073709551616 (X.take i) * val 18446744073709551616 Y) ∧ Hid (∀ p, i + k2 ≤ p → zs.getD p 0 = 0) ∧ Blk wr b .u64 54 zs ∧ Below w.heap.size w wr) (fun iv _ => k1 - (intOf iv).toNat)
  case atStart =>
    refine ⟨0, _, Nat.zero_le _, rfl, ?_, Dg.replicate (by omega) _, ?_, ?_, hblk, hbel⟩
    · show _ = _
      simp
    · show _ = _
      simp [val_replicate, val]
    · intro p _
      simp [List.getD, List.getElem?_replicate]
      split <;> rfl
  case round =>
    clear hblk hbel
    obtain ⟨i, zs, hi, rfl, hz, dz, hv, h0, hblk, hbel⟩ := hrel
    obtain ⟨wo, hwo⟩ : ∃ wo, wo = wr := ⟨_, rfl⟩
    subst hwo
    by_cases hlt : i < k1
    · obtain ⟨b1, o1, x, rfl, hcx, hx⟩ := (hX.keep hbel).get i hlt
      have hxW : x < 18446744073709551616 := by obtain ⟨h, e⟩ := hx.out; rw [← e]; exact dX.at i h
      go_wp2
      go_loopw [8, 33] (fun cv jv wr => ∃ (j c : Nat) (us : List Nat), j ≤ k2 ∧ c < 18446744073709551616 ∧ cv = .int .u64 c ∧ jv = .int .i64 j ∧ Hid (us.length = k1 + k2) ∧ Dg 18446744073709551616 us ∧
        Hid (val 18446744073709551616 us + 18446744073709551616 ^ (i + j) * c = val 18446744073709551616 zs + 18446744073709551616 ^ i * (x * val 18446744073709551616 (Y.take j))) ∧ Hid (∀ p, i + k2 ≤ p → us.getD p 0 = 0) ∧ Blk wr b .u64 54 us ∧ Below w.heap.size w wr) (fun _ jv _ => k2 - (intOf jv).toNat)
      case atStart =>
        exact ⟨0, 0, zs, Nat.zero_le _, by omega, rfl, rfl, hz, dz, by show _ = _; simp [val], h0, hblk, hbel⟩
      case round =>
        clear hblk hbel
        obtain ⟨j, c, us, hj, hc, rfl, rfl, hu, du, hv2, h2, hblk, hbel⟩ := hrel
        by_cases hlt2 : j < k2
        · obtain ⟨b2, o2, y, rfl, hcy, hy⟩ := (hY.keep hbel).get j hlt2
          have hyW : y < 18446744073709551616 := by obtain ⟨h, e⟩ := hy.out; rw [← e]; exact dY.at j h
          obtain ⟨o, hco, hfo, ho⟩ := hblk.get (i + j) (by rw [hu.out]; omega)
          have hoW : o < 18446744073709551616 := by obtain ⟨h, e⟩ := ho.out; rw [← e]; exact du.at _ h
          obtain ⟨hi', h1⟩ : ∃ hi, hi = x * y / 18446744073709551616 := ⟨_, rfl⟩
          obtain ⟨lo, h2'⟩ : ∃ lo, lo = x * y % 18446744073709551616 := ⟨_, rfl⟩
          obtain ⟨l1, h3⟩ : ∃ l1, l1 = (lo + o + 0) % 18446744073709551616 := ⟨_, rfl⟩
          obtain ⟨q1, h4⟩ : ∃ q1, q1 = (lo + o + 0) / 18446744073709551616 := ⟨_, rfl⟩
          obtain ⟨l2, h5⟩ : ∃ l2, l2 = (l1 + c + 0) % 18446744073709551616 := ⟨_, rfl⟩
          obtain ⟨q2, h6⟩ : ∃ q2, q2 = (l1 + c + 0) / 18446744073709551616 := ⟨_, rfl⟩
          obtain ⟨he, hk⟩ := mul_place 18446744073709551616 x y o c hi' lo l1 q1 l2 q2 hxW hyW hoW hc h1 h2' h3 h4 h5 h6
          have hloW : lo < 18446744073709551616 := by rw [h2']; exact Nat.mod_lt _ (by omega)
          have hl1W : l1 < 18446744073709551616 := by rw [h3]; exact Nat.mod_lt _ (by omega)
          have hl2W : l2 < 18446744073709551616 := by rw [h5]; exact Nat.mod_lt _ (by omega)
          have m1 := mul64_o x y hxW hyW hi' lo h1 h2'
          have a1' := add64_run00 lo o hloW hoW l1 q1 h3 h4
          have a2' := add64_run00 l1 c hl1W hc l2 q2 h5 h6
          obtain ⟨t1, ht1⟩ : ∃ t1, t1 = hi' + q1 := ⟨_, rfl⟩
          obtain ⟨t2, ht2⟩ : ∃ t2, t2 = t1 + q2 := ⟨_, rfl⟩
          have w1' := u64_in hi' q1 (by omega) t1 ht1
          have w2' := u64_in t1 q2 (by omega) t2 ht2
          have hE : l2 + 18446744073709551616 * t2 = x * y + o + c := by rw [ht2, ht1]; exact he
          have htW : t2 < 18446744073709551616 := by rw [ht2, ht1]; exact hk
          have HE := mkHid hE
          have M := mkHid m1
          clear h1 h2' h3 h4 h5 h6 he hk ht1 ht2 hE m1
          go_wp2_with (go_at_call 73; (with_reducible refine (M.out _).mono ?_); rintro e w' ⟨rfl, rfl⟩)
          go_roundw
          case rel =>
            refine ⟨j + 1, t2, us.set (i + j) l2, by omega, htW, rfl, by go_num, ?_, du.set _ _ hl2W, ?_, ?_, hblk.set _ _, hbel.setCell hB _⟩
            · show _ = _
              rw [List.length_set]; exact hu.out
            · show _ = _
              obtain ⟨h, e⟩ := ho.out
              obtain ⟨hh, e2⟩ := hy.out
              have e3 := val_set 18446744073709551616 us (i + j) l2 h
              rw [e] at e3
              rw [val_take_succ _ _ _ hh, e2, Nat.mul_add x, Nat.mul_add, ← Nat.mul_assoc x, Nat.mul_comm x (18446744073709551616 ^ j), Nat.mul_assoc (18446744073709551616 ^ j), ← Nat.mul_assoc (18446744073709551616 ^ i) (18446744073709551616 ^ j), ← Nat.pow_add, ← Nat.add_assoc i j 1, Nat.pow_succ]
              exact mul_inner _ _ _ _ _ _ _ _ _ _ _ hv2.out HE.out _ e3
            · intro p hp
              have := h2.out p hp
              simp only [List.getD, List.getElem?_set]
              rw [if_neg (by omega)]
              exact this
          case measure => simp [intOf]; omega
        · obtain rfl : j = k2 := by omega
          obtain ⟨o, hco, hfo, ho⟩ := hblk.get (i + j) (by rw [hu.out]; omega)
          go_wp2
          go_roundw
          case rel =>
            refine ⟨i + 1, us.set (i + j) c, by omega, by go_num, ?_, du.set _ _ hc, ?_, ?_, hblk.set _ _, hbel.setCell hB _⟩
            · show _ = _
              rw [List.length_set]; exact hu.out
            · show _ = _
              obtain ⟨h, e⟩ := ho.out
              obtain ⟨hh, e2⟩ := hx.out
              have e3 := val_set 18446744073709551616 us (i + j) c h
              have e4 := h2.out (i + j) (Nat.le_refl _)
              have e5 : us.getD (i + j) 0 = o := by rw [← e]; simp [List.getD, h]
              rw [e4] at e5
              rw [e, ← e5, Nat.mul_zero, Nat.add_zero] at e3
              have e6 := hv2.out
              rw [List.take_of_length_le (l := Y) (by rw [hY.len]; omega)] at e6
              rw [e3, e6, hv.out, val_take_succ _ _ _ hh, e2, Nat.add_mul, Nat.mul_assoc]
            · intro p hp
              have := h2.out p (by omega)
              simp only [List.getD, List.getElem?_set]
              rw [if_neg (by omega)]
              exact this
          case measure => simp [intOf]; omega
    · obtain rfl : i = k1 := by omega
      have hown := Own.ofBlk hblk hB (i + k2) hz.out (by omega)
      have hval : Hid (val 18446744073709551616 zs = val 18446744073709551616 xs * val 18446744073709551616 ys) := by
        show _ = _
        rw [hv.out, List.take_of_length_le (l := X) (by rw [hX.len]; omega), vX.out, vY.out]
      go_wp2_with (go_at_call 59; (with_reducible refine (trim_own hown dz).mono ?_); rintro e w' ⟨m, rfl, hm, ho, rfl⟩)
      go_ret
      exact ⟨_, _, _, rfl, by rw [← hval.out]; exact ho, hbel⟩

end Go.Proofs.Ytaeamlldocbeeaa
