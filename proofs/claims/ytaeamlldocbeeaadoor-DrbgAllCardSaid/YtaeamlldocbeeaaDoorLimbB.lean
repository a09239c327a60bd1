/- LimbB: Limb5, Limb6, Limb7. -/
import Derived.Test.YtaeamlldocbeeaaDoorLimbA
import Derived.Test.YtaeamlldocbeeaaDoorNumA

/- limb: Of, Shl, Shr. -/

namespace Go.Proofs.YtaeamlldocbeeaaDoor
open Go.RowKit Num

theorem shl_yes {a1 : Option Addr} {n1 c1 : Nat} {xs : List Nat} {w : World} (h1 : Sl .u64 w a1 n1 c1 xs) (hd1 : Dg 18446744073709551616 xs) (hn1 : n1 ≤ 1099511627776)
    (m : Nat) (hm : m ≤ 65536) (h0 : 0 < val 18446744073709551616 xs) :
    Calls Tryd.prog 45 #[.slice a1 n1 c1, .int .i64 (m : Int)] w (Gives .u64 47 w (dig 18446744073709551616 (val 18446744073709551616 xs * 2 ^ m))) := by
  obtain ⟨q, hq⟩ : ∃ q, q = m / 64 := ⟨_, rfl⟩
  obtain ⟨k, hk⟩ : ∃ k, k = m % 64 := ⟨_, rfl⟩
  have e1 : ((m : Int) / 64) = (q : Int) := by omega
  have e2 : ((m : Int) % 64) = (k : Int) := by omega
  have hk64 : k < 64 := by omega
  have hq' : q ≤ 1024 := by omega
  have t1 : decide ((m : Int) < 0) = false := decide_eq_false (by omega)
  have t2 : decide (65536 < (m : Int)) = false := decide_eq_false (by omega)
  have HQ := mkHid hq
  have HK := mkHid hk
  clear hq hk
  go_enter Tryd.func45, Tryd.ntmps45
  go_upto_if 22 with (first
    | (go_at_call 38; (with_reducible refine (trim_sl h1 hd1).mono ?_); rintro e w' ⟨k1, rfl, hm1, hX, rfl⟩))
  have hk1 : 0 < k1 := by
    rw [← hX.len]
    exact (lt_dig_length _ (by omega) 0 _).2 (by rw [Nat.pow_zero]; exact h0)
  have hb0 : ((k1 : Int) == 0) = false := beq_f (n := 0) (by omega)
  go_wp2_with (first
    | (at_make; refine wpList_mk rfl _ _ _ rfl 47 .u64 8 under_nat info_u64 (k1 + q + 1) rfl rfl (by omega) (by omega) (by omega) (by omega) ?_; intro b w2 hB hblk hbel))
  have vX := mkHid (val_dig 18446744073709551616 (by omega) (val 18446744073709551616 xs))
  have dX := Dg.dig 18446744073709551616 (by omega) (val 18446744073709551616 xs)
  generalize dig 18446744073709551616 (val 18446744073709551616 xs) = X at *
  go_loopw [36] (fun iv wr => ∃ (i : Nat) (zs : List Nat), i ≤ k1 ∧ iv = .int .i64 i ∧ Hid (zs.length = k1 + q + 1) ∧ Dg 18446744073709551616 zs ∧
      Hid (val 18446744073709551616 zs = val 18446744073709551616 (X.take i) * 2 ^ m) ∧ Hid (∀ p, i + q < p → zs.getD p 0 = 0) ∧ Hid (zs.getD (i + q) 0 < 2 ^ k) ∧ Blk wr b .u64 47 zs ∧ Below w.heap.size w wr) (fun iv _ => k1 - (intOf iv).toNat)
  case atStart =>
    refine ⟨0, _, Nat.zero_le _, rfl, ?_, Dg.replicate (by omega) _, ?_, ?_, ?_, hblk, hbel⟩
    · show _ = _
      simp
    · show _ = _
      simp [val_replicate, val]
    · intro p _
      simp [List.getD, List.getElem?_replicate]
      split <;> rfl
    · show _ < _
      have : (List.replicate (k1 + q + 1) 0).getD (0 + q) 0 = 0 := by
        simp [List.getD, List.getElem?_replicate]
        split <;> rfl
      rw [this]
      exact Nat.two_pow_pos k
  case round =>
    clear hblk hbel
    obtain ⟨i, zs, hi, rfl, hz, dz, hv, h0', hlow, hblk, hbel⟩ := hrel
    by_cases hlt : i < k1
    · obtain ⟨b1, o1, x, rfl, hcx, hx⟩ := (hX.keep hbel).get i hlt
      have hxW : x < 18446744073709551616 := by obtain ⟨h, e⟩ := hx.out; rw [← e]; exact dX.at i h
      obtain ⟨o, hco, hfo, ho⟩ := hblk.get (i + q) (by rw [hz.out]; omega)
      obtain ⟨o2, hco2, hfo2, ho2⟩ := hblk.get (i + q + 1) (by rw [hz.out]; omega)
      have hoz : zs.getD (i + q) 0 = o := by obtain ⟨h, e⟩ := ho.out; rw [← e]; simp [List.getD, h]
      have ho2z : zs.getD (i + q + 1) 0 = o2 := by obtain ⟨h, e⟩ := ho2.out; rw [← e]; simp [List.getD, h]
      have hok : o < 2 ^ k := by rw [← hoz]; exact hlow.out
      obtain ⟨p1, p2, p3⟩ := shl_parts x o k (by omega) hok hxW
      obtain ⟨v1, hv1⟩ : ∃ v, v = o + x * 2 ^ k % 18446744073709551616 := ⟨_, rfl⟩
      obtain ⟨v2, hv2⟩ : ∃ v, v = x * 2 ^ k / 18446744073709551616 := ⟨_, rfl⟩
      have hor : bits .or .u64 (o : Int) (IntKind.u64.wrap ((x : Int) * 2 ^ k)) = (v1 : Int) := by
        have e : IntKind.u64.wrap ((x : Int) * 2 ^ k) = ((x * 2 ^ k % 18446744073709551616 : Nat) : Int) := by
          rw [IntKind.wrap_u64, Int.natCast_emod, Int.natCast_mul, Int.natCast_pow]; rfl
        rw [e, bits_or_u64_nat _ _ (by omega) (Nat.mod_lt _ (by omega)), p1, hv1]
      have hsh : (x : Int) / 2 ^ (64 - k) = (v2 : Int) := by
        rw [hv2, shl_div x k (by omega), Int.natCast_ediv, Int.natCast_pow]; rfl
      have hv1W : v1 < 18446744073709551616 := by rw [hv1]; exact p2
      have hv2k : Hid (v2 < 2 ^ k) := by show _ < _; rw [hv2]; exact p3
      have hv2W : v2 < 18446744073709551616 := by
        have : 2 ^ k ≤ 2 ^ 63 := Nat.pow_le_pow_right (by omega) (by omega)
        have := hv2k.out
        omega
      have HV1 := mkHid hv1
      have HV2 := mkHid hv2
      have HO := mkHid hoz
      have HO2 := mkHid ho2z
      clear hv1 hv2 p1 p2 p3 hok hoz ho2z
      go_wp2
      go_roundw
      case rel =>
        refine ⟨i + 1, (zs.set (i + q) v1).set (i + q + 1) v2, by omega, by go_num, ?_, (dz.set _ _ hv1W).set _ _ hv2W, ?_, ?_, ?_, (hblk.set _ _).set _ _, (hbel.setCell hB _).setCell hB _⟩
        · show _ = _
          rw [List.length_set, List.length_set]; exact hz.out
        · show _ = _
          obtain ⟨h, e⟩ := ho.out
          obtain ⟨h2, e2⟩ := ho2.out
          obtain ⟨h3, e3⟩ := hx.out
          rw [HV1.out]
          refine shl_step zs _ x o _ v2 i q k m _ (by rw [HQ.out, HK.out]; omega) h2 e ?_ hv.out ?_ (by rw [val_take_succ _ _ _ h3, e3])
          · rw [e2, ← HO2.out]; exact h0'.out _ (by omega)
          · rw [HV2.out]; exact Nat.mod_add_div _ _
        · intro p hp
          have := h0'.out p (by omega)
          simp only [List.getD, List.getElem?_set]
          rw [if_neg (by omega), if_neg (by omega)]
          exact this
        · show _ < _
          have e : ((zs.set (i + q) v1).set (i + q + 1) v2).getD (i + 1 + q) 0 = v2 := by
            obtain ⟨h2, e2⟩ := ho2.out
            rw [show i + 1 + q = i + q + 1 by omega]
            simp [List.getD, h2]
          rw [e]; exact hv2k.out
      case measure => simp [intOf]; omega
    · obtain rfl : i = k1 := by omega
      have hown := Own.ofBlk hblk hB (i + q + 1) hz.out (by omega)
      have hval : Hid (val 18446744073709551616 zs = val 18446744073709551616 xs * 2 ^ m) := by
        show _ = _
        rw [hv.out, List.take_of_length_le (l := X) (by rw [hX.len]; omega), vX.out]
      go_wp2_with (go_at_call 38; (with_reducible refine (trim_own hown dz).mono ?_); rintro e w' ⟨m', rfl, hm', ho, rfl⟩)
      go_ret
      exact ⟨_, _, _, rfl, by rw [← hval.out]; exact ho, hbel⟩

theorem shl_no {a1 : Option Addr} {n1 c1 : Nat} {xs : List Nat} {w : World} (h1 : Sl .u64 w a1 n1 c1 xs) (hd1 : Dg 18446744073709551616 xs)
    (m : Int) (hm : m < 0 ∨ 65536 < m ∨ val 18446744073709551616 xs = 0) :
    Calls Tryd.prog 45 #[.slice a1 n1 c1, .int .i64 m] w (Gives .u64 47 w []) := by
  by_cases g1 : m < 0
  · have t1 : decide (m < 0) = true := decide_eq_true g1
    go_enter Tryd.func45, Tryd.ntmps45
    go_wp2_with (first
      | (go_at_call 38; (with_reducible refine (trim_sl h1 hd1).mono ?_); rintro e w' ⟨k1, rfl, hm1, hX, rfl⟩))
    go_ret
    exact ⟨_, _, _, rfl, Own.nilOwn _ _ _ _, Below.refl _ _⟩
  · have t1 : decide (m < 0) = false := decide_eq_false g1
    by_cases g2 : 65536 < m
    · have t2 : decide (65536 < m) = true := decide_eq_true g2
      go_enter Tryd.func45, Tryd.ntmps45
      go_wp2_with (first
        | (go_at_call 38; (with_reducible refine (trim_sl h1 hd1).mono ?_); rintro e w' ⟨k1, rfl, hm1, hX, rfl⟩))
      go_ret
      exact ⟨_, _, _, rfl, Own.nilOwn _ _ _ _, Below.refl _ _⟩
    · have t2 : decide (65536 < m) = false := decide_eq_false g2
      have hv : Hid (val 18446744073709551616 xs = 0) := by rcases hm with h | h | h <;> first | omega | exact h
      go_enter Tryd.func45, Tryd.ntmps45
      go_upto_if 22 with (first
        | (go_at_call 38; (with_reducible refine (trim_sl h1 hd1).mono ?_); rintro e w' ⟨k1, rfl, hm1, hX, rfl⟩))
      obtain rfl : k1 = 0 := by rw [← hX.len, hv.out]; rfl
      go_wp2
      go_ret
      exact ⟨_, _, _, rfl, Own.nilOwn _ _ _ _, Below.refl _ _⟩

/-- limb.Shl, at any count -/
theorem shl_any {a1 : Option Addr} {n1 c1 : Nat} {xs : List Nat} {w : World} (h1 : Sl .u64 w a1 n1 c1 xs) (hd1 : Dg 18446744073709551616 xs) (hn1 : n1 ≤ 1099511627776) (m : Int) :
    Calls Tryd.prog 45 #[.slice a1 n1 c1, .int .i64 m] w (Gives .u64 47 w (if 0 ≤ m ∧ m ≤ 65536 then dig 18446744073709551616 (val 18446744073709551616 xs * 2 ^ m.toNat) else [])) := by
  by_cases hm : 0 ≤ m ∧ m ≤ 65536
  · rw [if_pos hm]
    by_cases h0 : val 18446744073709551616 xs = 0
    · rw [h0, Nat.zero_mul]
      exact shl_no h1 hd1 m (.inr (.inr h0))
    · obtain ⟨j, rfl⟩ := Int.eq_ofNat_of_zero_le hm.1
      exact shl_yes h1 hd1 hn1 j (by omega) (by omega)
  · rw [if_neg hm]
    exact shl_no h1 hd1 m (by omega)

theorem of_any (x : Nat) (hx : x < 18446744073709551616) (w : World) :
    Calls Tryd.prog 43 #[.int .u64 (x : Int)] w (Gives .u64 47 w (dig 18446744073709551616 x)) := by
  go_enter Tryd.func43, Tryd.ntmps43
  go_wp2_with (fail)
  have hs := (Blk.new1 w .u64 47 x).sl 1 rfl (by omega)
  go_wp2_with (go_at_call 41; (with_reducible refine (made_any hs (Dg.cons hx Dg.nil) (by omega)).mono ?_); rintro e w' ⟨a1, n1, c1, rfl, ho, hb⟩)
  go_ret
  refine ⟨_, _, _, rfl, ?_, (below_alloc _ (Nat.le_refl _)).trans (hb.mono (by simp))⟩
  have := ho.mono (B' := w.heap.size) (by simp)
  rwa [val_single] at this

/-- limb.Shr where something is left -/
theorem shr_yes {a1 : Option Addr} {n1 c1 : Nat} {xs : List Nat} {w : World} (h1 : Sl .u64 w a1 n1 c1 xs) (hd1 : Dg 18446744073709551616 xs) (hn1 : n1 ≤ 1099511627776)
    (m : Nat) (hm63 : m < 9223372036854775808) (hm : m / 64 < (dig 18446744073709551616 (val 18446744073709551616 xs)).length) :
    Calls Tryd.prog 49 #[.slice a1 n1 c1, .int .i64 (m : Int)] w (Gives .u64 47 w (dig 18446744073709551616 (val 18446744073709551616 xs / 2 ^ m))) := by
  obtain ⟨q, hq⟩ : ∃ q, q = m / 64 := ⟨_, rfl⟩
  obtain ⟨k, hk⟩ : ∃ k, k = m % 64 := ⟨_, rfl⟩
  have e1 : ((m : Int) / 64) = (q : Int) := by omega
  have e2 : ((m : Int) % 64) = (k : Int) := by omega
  have hk64 : k < 64 := by omega
  have hq63 : q < 9223372036854775808 := by omega
  have t1 : decide ((m : Int) < 0) = false := decide_eq_false (by omega)
  rw [← hq] at hm
  have HQ := mkHid hq
  have HK := mkHid hk
  clear hq hk
  go_enter Tryd.func49, Tryd.ntmps49
  go_upto_if 19 with (first
    | (go_at_call 38; (with_reducible refine (trim_sl h1 hd1).mono ?_); rintro e w' ⟨k1, rfl, hm1, hX, rfl⟩))
  rw [hX.len] at hm
  have t2 : decide ((k1 : Int) ≤ (q : Int)) = false := decide_eq_false (by omega)
  obtain ⟨N, hN⟩ : ∃ N, N = k1 - q := ⟨_, rfl⟩
  have e3 : (k1 : Int) - (q : Int) = (N : Int) := by omega
  have hNk : N + q ≤ k1 ∧ k1 ≤ N + q := by omega
  clear hN
  go_wp2_with (first
    | (at_make; refine wpList_mk rfl _ _ _ rfl 47 .u64 8 under_nat info_u64 N rfl rfl (by omega) (by omega) (by omega) (by omega) ?_; intro b w2 hB hblk hbel))
  have vX := mkHid (val_dig 18446744073709551616 (by omega) (val 18446744073709551616 xs))
  have dX := Dg.dig 18446744073709551616 (by omega) (val 18446744073709551616 xs)
  generalize dig 18446744073709551616 (val 18446744073709551616 xs) = X at *
  have hdq : Hid (val 18446744073709551616 (X.drop q) / 2 ^ k = val 18446744073709551616 xs / 2 ^ m) := by
    show _ = _
    rw [← val_div_pow (by omega) dX, vX.out, pow_W, Nat.div_div_eq_div_mul, ← Nat.pow_add, HQ.out, HK.out, show 64 * (m / 64) + m % 64 = m by omega]
  go_loopw [32] (fun iv wr => ∃ (i : Nat) (zs : List Nat), i ≤ N ∧ iv = .int .i64 i ∧ Hid (zs.length = i) ∧ Dg 18446744073709551616 zs ∧
      Hid (val 18446744073709551616 zs = val 18446744073709551616 (X.drop q) / 2 ^ k % 18446744073709551616 ^ i) ∧ Blk wr b .u64 47 (zs ++ List.replicate (N - i) 0) ∧ Below w.heap.size w wr) (fun iv _ => N - (intOf iv).toNat)
  case atStart =>
    refine ⟨0, [], Nat.zero_le _, rfl, rfl, Dg.nil, ?_, by simpa using hblk, hbel⟩
    show _ = _
    simp [val, Nat.mod_one]
  case round =>
    clear hblk hbel
    obtain ⟨i, zs, hi, rfl, hz, dz, hv, hblk, hbel⟩ := hrel
    by_cases hlt : i < N
    · obtain ⟨b1, o1, x, rfl, hcx, hx⟩ := (hX.keep hbel).get (i + q) (by omega)
      have hxW : x < 18446744073709551616 := by obtain ⟨h, e⟩ := hx.out; rw [← e]; exact dX.at _ h
      obtain ⟨z0, hcb, hfb, _⟩ := hblk.get i (by rw [length_grow zs i N 0 hz.out (by omega)]; omega)
      obtain ⟨v1, hv1⟩ : ∃ v, v = x / 2 ^ k := ⟨_, rfl⟩
      have hs1 : (x : Int) / 2 ^ k = (v1 : Int) := by
        rw [hv1, Int.natCast_ediv, Int.natCast_pow]; rfl
      have hv1W : v1 < 18446744073709551616 := by rw [hv1]; exact Nat.lt_of_le_of_lt (Nat.div_le_self _ _) hxW
      have HV1 := mkHid hv1
      clear hv1
      by_cases hlt2 : i + q + 1 < k1
      · have t3 : decide ((i : Int) + (q : Int) + 1 < (k1 : Int)) = true := decide_eq_true (by omega)
        go_upto_region 11 with (fail)
        obtain ⟨wm, hwm⟩ : ∃ wm, wm = wr.setCell ⟨b, i, none⟩ (.int .u64 (v1 : Int)) := ⟨_, rfl⟩
        have hblk2 := hblk.set i v1
        have hbel2 := hbel.setCell (p := ⟨b, i, none⟩) hB (.int .u64 (v1 : Int))
        rw [← hwm] at hblk2 hbel2 ⊢
        clear hwm hcb hfb hblk hbel hcx
        rw [set_grow zs i _ v1 0 hz.out (by omega)] at hblk2
        have hl2 : (zs ++ [v1]).length = i + 1 := by rw [List.length_append, hz.out]; rfl
        obtain ⟨z1, hcb, hfb, hz1⟩ := hblk2.get i (by rw [length_grow _ (i + 1) N 0 hl2 (by omega)]; omega)
        have hz1v : z1 = v1 := by
          obtain ⟨h, e⟩ := hz1.out
          rw [← e, List.getElem_append_left (by omega), List.getElem_append_right (by rw [hz.out]; omega)]
          simp [hz.out]
        subst hz1v
        obtain ⟨b2, o2, y, e, hcy, hy⟩ := (hX.keep hbel2).get (i + q + 1) hlt2
        have e5 := mkHid e
        clear e
        obtain ⟨rfl, rfl⟩ : b1 = b2 ∧ o1 = o2 := by simpa using e5.out
        have hyW : y < 18446744073709551616 := by obtain ⟨h, e⟩ := hy.out; rw [← e]; exact dX.at _ h
        have hdx : (X.drop q).getD i 0 = x := by obtain ⟨h, e⟩ := hx.out; rw [← e]; simp [List.getD, Nat.add_comm q i, h]
        have hdy : (X.drop q).getD (i + 1) 0 = y := by obtain ⟨h, e⟩ := hy.out; rw [← e]; simp [List.getD, show q + (i + 1) = i + q + 1 by omega, h]
        obtain ⟨g1, g2⟩ := shr_digit (dX.drop q) i k hk64
        rw [hdx, hdy, ← HV1.out] at g1
        rw [hdx, ← HV1.out] at g2
        obtain ⟨p1, p2, _⟩ := shl_parts y z1 (64 - k) (by omega) g2 hyW
        obtain ⟨v2, hv2⟩ : ∃ v, v = z1 + y * 2 ^ (64 - k) % 18446744073709551616 := ⟨_, rfl⟩
        rw [← hv2] at p1 p2 g1
        have hor : bits .or .u64 (z1 : Int) (IntKind.u64.wrap ((y : Int) * 2 ^ (64 - k))) = (v2 : Int) := by
          have e : IntKind.u64.wrap ((y : Int) * 2 ^ (64 - k)) = ((y * 2 ^ (64 - k) % 18446744073709551616 : Nat) : Int) := by
            rw [IntKind.wrap_u64, Int.natCast_emod, Int.natCast_mul, Int.natCast_pow]; rfl
          rw [e, bits_or_u64_nat _ _ (by omega) (Nat.mod_lt _ (by omega)), p1]
        have G1 := mkHid g1
        clear hdx hdy p1 hv2 g1 g2
        go_region
        go_wp2
        go_roundw
        case rel =>
          refine ⟨i + 1, zs ++ [v2], by omega, by go_num, ?_, dz.snoc p2, ?_, ?_, (hbel2.setCell hB _).drew⟩
          · show _ = _
            rw [List.length_append, hz.out]; rfl
          · show _ = _
            rw [val_snoc, hz.out, hv.out, Nat.mod_pow_succ, G1.out]
          · have := hblk2.set i v2
            rw [List.append_assoc, List.set_append_right _ _ (by rw [hz.out]; exact Nat.le_refl _), hz.out, Nat.sub_self] at this
            rw [List.append_assoc]
            exact this
        case measure => simp [intOf]; omega
      · have t3 : decide ((i : Int) + (q : Int) + 1 < (k1 : Int)) = false := decide_eq_false (by omega)
        have hdx : (X.drop q).getD i 0 = x := by obtain ⟨h, e⟩ := hx.out; rw [← e]; simp [List.getD, Nat.add_comm q i, h]
        have hdy : (X.drop q).getD (i + 1) 0 = 0 := by simp [List.getD, show q + (i + 1) = i + q + 1 by omega, show X.length ≤ i + q + 1 by rw [hX.len]; omega]
        obtain ⟨g1, _⟩ := shr_digit (dX.drop q) i k hk64
        rw [hdx, hdy, ← HV1.out, Nat.zero_mul, Nat.zero_mod, Nat.add_zero] at g1
        have G1 := mkHid g1
        clear hdx hdy g1
        go_wp2
        go_roundw
        case rel =>
          refine ⟨i + 1, zs ++ [v1], by omega, by go_num, ?_, dz.snoc hv1W, ?_, ?_, hbel.setCell hB _⟩
          · show _ = _
            rw [List.length_append, hz.out]; rfl
          · show _ = _
            rw [val_snoc, hz.out, hv.out, Nat.mod_pow_succ, G1.out]
          · have := hblk.set i v1
            rwa [set_grow zs i _ v1 0 hz.out (by omega)] at this
        case measure => simp [intOf]; omega
    · obtain rfl : i = N := by omega
      rw [Nat.sub_self, List.replicate_zero, List.append_nil] at hblk
      have hown := Own.ofBlk hblk hB i hz.out (by omega)
      have hval : Hid (val 18446744073709551616 zs = val 18446744073709551616 xs / 2 ^ m) := by
        show _ = _
        rw [hv.out, ← hdq.out, Nat.mod_eq_of_lt]
        have h1 := val_lt (dX.drop q)
        rw [List.length_drop, hX.len, show k1 - q = i by omega] at h1
        exact Nat.lt_of_le_of_lt (Nat.div_le_self _ _) h1
      go_wp2_with (go_at_call 38; (with_reducible refine (trim_own hown dz).mono ?_); rintro e w' ⟨m', rfl, hm', ho, rfl⟩)
      go_ret
      exact ⟨_, _, _, rfl, by rw [← hval.out]; exact ho, hbel⟩

theorem shr_no {a1 : Option Addr} {n1 c1 : Nat} {xs : List Nat} {w : World} (h1 : Sl .u64 w a1 n1 c1 xs) (hd1 : Dg 18446744073709551616 xs) (_hn1 : n1 ≤ 1099511627776)
    (m : Int) (hm63 : m < 9223372036854775808) (hm : m < 0 ∨ ((dig 18446744073709551616 (val 18446744073709551616 xs)).length : Int) ≤ m / 64) :
    Calls Tryd.prog 49 #[.slice a1 n1 c1, .int .i64 m] w (Gives .u64 47 w []) := by
  by_cases g1 : m < 0
  · have t1 : decide (m < 0) = true := decide_eq_true g1
    go_enter Tryd.func49, Tryd.ntmps49
    go_wp2_with (first
      | (go_at_call 38; (with_reducible refine (trim_sl h1 hd1).mono ?_); rintro e w' ⟨k1, rfl, hm1, hX, rfl⟩))
    go_ret
    exact ⟨_, _, _, rfl, Own.nilOwn _ _ _ _, Below.refl _ _⟩
  · have t1 : decide (m < 0) = false := decide_eq_false g1
    have hm' : ((dig 18446744073709551616 (val 18446744073709551616 xs)).length : Int) ≤ m / 64 := by rcases hm with h | h <;> first | omega | exact h
    have hm2 : 0 ≤ m := by omega
    obtain ⟨q, hq⟩ : ∃ q : Nat, m / 64 = (q : Int) := ⟨(m / 64).toNat, by omega⟩
    rw [hq] at hm'
    have hq2 : q < 9223372036854775808 := by omega
    go_enter Tryd.func49, Tryd.ntmps49
    go_upto_if 19 with (first
      | (go_at_call 38; (with_reducible refine (trim_sl h1 hd1).mono ?_); rintro e w' ⟨k1, rfl, hm1, hX, rfl⟩))
    rw [hX.len] at hm'
    have t2 : decide ((k1 : Int) ≤ (q : Int)) = true := decide_eq_true hm'
    go_wp2
    go_ret
    exact ⟨_, _, _, rfl, Own.nilOwn _ _ _ _, Below.refl _ _⟩

/-- limb.Shr, at any count -/
theorem shr_any {a1 : Option Addr} {n1 c1 : Nat} {xs : List Nat} {w : World} (h1 : Sl .u64 w a1 n1 c1 xs) (hd1 : Dg 18446744073709551616 xs) (hn1 : n1 ≤ 1099511627776) (m : Int) (hm63 : m < 9223372036854775808) :
    Calls Tryd.prog 49 #[.slice a1 n1 c1, .int .i64 m] w (Gives .u64 47 w (if 0 ≤ m then dig 18446744073709551616 (val 18446744073709551616 xs / 2 ^ m.toNat) else [])) := by
  by_cases hm : 0 ≤ m
  · rw [if_pos hm]
    obtain ⟨j, rfl⟩ := Int.eq_ofNat_of_zero_le hm
    by_cases h0 : j / 64 < (dig 18446744073709551616 (val 18446744073709551616 xs)).length
    · exact shr_yes h1 hd1 hn1 j (by omega) h0
    · have h2 : val 18446744073709551616 xs / 2 ^ j = 0 := by
        apply Nat.div_eq_of_lt
        have h3 := (dig_length_le 18446744073709551616 (by omega) (j / 64) (val 18446744073709551616 xs)).1 (by omega)
        rw [pow_W] at h3
        have : 2 ^ (64 * (j / 64)) ≤ 2 ^ j := Nat.pow_le_pow_right (by omega) (by omega)
        omega
      rw [Int.toNat_natCast, h2]
      exact shr_no h1 hd1 hn1 j (by omega) (.inr (by omega))
  · rw [if_neg hm]
    exact shr_no h1 hd1 hn1 m hm63 (.inl (by omega))

end Go.Proofs.YtaeamlldocbeeaaDoor

/- limb: Bits, Bit. -/

namespace Go.Proofs.YtaeamlldocbeeaaDoor
open Go.RowKit Num

theorem bits_any {a1 : Option Addr} {n1 c1 : Nat} {xs : List Nat} {w : World} (h1 : Sl .u64 w a1 n1 c1 xs) (hd1 : Dg 18446744073709551616 xs) (hn1 : n1 ≤ 1099511627776) :
    Calls Tryd.prog 24 #[.slice a1 n1 c1] w (RetN .i64 w (bitLen (val 18446744073709551616 xs))) := by
  go_enter Tryd.func24, Tryd.ntmps24
  go_upto_if 7 with (first
    | (go_at_call 38; (with_reducible refine (trim_sl h1 hd1).mono ?_); rintro e w' ⟨k1, rfl, hm1, hX, rfl⟩))
  by_cases h0 : k1 = 0
  · subst h0
    have hv : Hid (val 18446744073709551616 xs = 0) := by
      have := hX.len
      have := (dig_length_le 18446744073709551616 (by omega) 0 (val 18446744073709551616 xs)).1 (by omega)
      show _ = _
      rw [Nat.pow_zero] at this
      omega
    go_wp2
    go_ret
    exact ⟨ret1 (by rw [hv.out]; rfl), rfl⟩
  · obtain ⟨k, rfl⟩ : ∃ k, k1 = k + 1 := ⟨k1 - 1, by omega⟩
    have hb : (((k + 1 : Nat) : Int) == 0) = false := beq_f (n := 0) h0
    have e1 : ((k + 1 : Nat) : Int) - 1 = (k : Int) := by omega
    obtain ⟨b1, o1, x, rfl, hcx, hx⟩ := hX.get k (by omega)
    have dX := Dg.dig 18446744073709551616 (by omega) (val 18446744073709551616 xs)
    have hxW : x < 18446744073709551616 := by obtain ⟨h, e⟩ := hx.out; rw [← e]; exact dX.at _ h
    have hv : Hid (bitLen (val 18446744073709551616 xs) = 64 * k + bitLen x) := by
      show _ = _
      obtain ⟨h, e⟩ := hx.out
      have hl := hX.len
      have h2 := dig_last 18446744073709551616 (by omega) (val 18446744073709551616 xs) (by omega)
      have h3 := bitLen_digits dX hl (by
        have e4 : (dig 18446744073709551616 (val 18446744073709551616 xs)).length - 1 = k := by omega
        simp only [e4] at h2
        exact h2)
      rw [val_dig _ (by omega), e] at h3
      exact h3
    have hl64 := bitLen_le64 x hxW
    go_wp2_with (go_at_call 39; refine (len64_any x hxW _).mono ?_; rintro e w' ⟨rfl, rfl⟩)
    go_ret
    refine ⟨ret1 ?_, rfl⟩
    rw [hv.out]
    omega

/-- a bit at any place -/
def bitAt (v : Nat) (m : Int) : Nat := if 0 ≤ m then v / 2 ^ m.toNat % 2 else 0

end Go.Proofs.YtaeamlldocbeeaaDoor

/- limb: FromBytes, Bytes. -/

namespace Go.Proofs.YtaeamlldocbeeaaDoor
open Go.RowKit Num

theorem under_bytes : Tryd.prog.underlying 22 = some (.slice 5) := by kernel_rfl

theorem frombytes_any {a1 : Option Addr} {n c1 : Nat} {bs : List Nat} {w : World} (h1 : Sl .u8 w a1 n c1 bs) (hd1 : Dg 256 bs) (hn1 : n ≤ 1099511627776) :
    Calls Tryd.prog 26 #[.slice a1 n c1] w (Gives .u64 47 w (dig 18446744073709551616 (be bs))) := by
  obtain ⟨N, hN⟩ : ∃ N, N = (n + 7) / 8 := ⟨_, rfl⟩
  have e3 : ((n : Int) + 7) / 8 = (N : Int) := by omega
  have hN8 : n ≤ 8 * N ∧ N ≤ n := by omega
  clear hN
  have hl := mkHid h1.len
  go_enter Tryd.func26, Tryd.ntmps26
  go_wp2_with (first
    | (at_make; refine wpList_mk rfl _ _ _ rfl 47 .u64 8 under_nat info_u64 N rfl rfl (by omega) (by omega) (by omega) (by omega) ?_; intro b w2 hB hblk hbel))
  go_loopw [14] (fun iv wr => ∃ (i : Nat) (zs : List Nat), i ≤ n ∧ iv = .int .i64 i ∧ Hid (zs.length = N) ∧ Dg 18446744073709551616 zs ∧
      Hid (val 18446744073709551616 zs = be (bs.take i) * 256 ^ (n - i)) ∧ Blk wr b .u64 47 zs ∧ Below w.heap.size w wr) (fun iv _ => n - (intOf iv).toNat)
  case atStart =>
    refine ⟨0, _, Nat.zero_le _, rfl, ?_, Dg.replicate (by omega) _, ?_, hblk, hbel⟩
    · show _ = _
      simp
    · show _ = _
      rw [val_replicate, List.take_zero]
      simp [be, val]
  case round =>
    clear hblk hbel
    obtain ⟨i, zs, hi, rfl, hz, dz, hv, hblk, hbel⟩ := hrel
    by_cases hlt : i < n
    · obtain ⟨b1, o1, c, rfl, hcx, hc⟩ := (h1.keep hbel).get i hlt
      have hc8 : c < 256 := by obtain ⟨h, e⟩ := hc.out; rw [← e]; exact hd1.at i h
      obtain ⟨k, hk⟩ : ∃ k, k + 1 + i = n := ⟨n - 1 - i, by omega⟩
      obtain ⟨p, hp⟩ : ∃ p, p = k / 8 := ⟨_, rfl⟩
      obtain ⟨r, hr⟩ : ∃ r, r = k % 8 := ⟨_, rfl⟩
      have e4 : (n : Int) - 1 - (i : Int) = (k : Int) := by omega
      have e5 : (k : Int) / 8 = (p : Int) := by omega
      have e6 : (k : Int) % 8 = (r : Int) := by omega
      have hr8 : r < 8 := by omega
      have hpN : p < N := by omega
      have hk9 : k < 1099511627776 := by omega
      have HK := mkHid hk
      have HP : Hid (k = 8 * p + r) := by show _ = _; omega
      clear hk hp hr
      obtain ⟨o, hco, hfo, ho⟩ := hblk.get p (by rw [hz.out]; exact hpN)
      obtain ⟨v, hvv⟩ : ∃ v, v = o + c * 2 ^ (r * 8) := ⟨_, rfl⟩
      obtain ⟨hop, hoz⟩ := ho.out
      obtain ⟨f1, f2, f3⟩ := fb_step zs _ c n i k p r o HK.out HP.out hr8 hc8 hop hoz dz hv.out
      rw [← hvv] at f1 f2 f3
      have hoW : o < 18446744073709551616 := by rw [← hoz]; exact dz.at _ hop
      have hcW : c * 2 ^ (r * 8) < 18446744073709551616 := by omega
      have hor : bits .or .u64 (o : Int) (IntKind.u64.wrap ((c : Int) * 2 ^ (r * 8))) = (v : Int) := by
        have e : IntKind.u64.wrap ((c : Int) * 2 ^ (r * 8)) = ((c * 2 ^ (r * 8) : Nat) : Int) := by
          rw [IntKind.wrap_u64, Int.natCast_mul, Int.natCast_pow, Int.emod_eq_of_lt]
          · rfl
          · exact Int.mul_nonneg (by omega) (Int.pow_nonneg (by omega))
          · have : ((c * 2 ^ (r * 8) : Nat) : Int) < ((18446744073709551616 : Nat) : Int) := by omega
            rw [Int.natCast_mul, Int.natCast_pow] at this
            exact this
        rw [e, bits_or_u64_nat _ _ hoW hcW, f1]
      have F3 := mkHid f3
      clear hvv f1 f3 hop hoz hcW
      go_wp2
      go_region
      go_wp2
      go_roundw
      case rel =>
        refine ⟨i + 1, zs.set p v, by omega, by go_num, ?_, dz.set _ _ f2, ?_, hblk.set _ _, (hbel.setCell hB _).drew⟩
        · show _ = _
          rw [List.length_set]; exact hz.out
        · show _ = _
          obtain ⟨h, e⟩ := hc.out
          rw [F3.out, be_take_succ _ _ h, e]
      case measure => simp [intOf]; omega
    · obtain rfl : i = n := by omega
      have hown := Own.ofBlk hblk hB N hz.out (by omega)
      have hval : Hid (val 18446744073709551616 zs = be bs) := by
        show _ = _
        rw [hv.out, List.take_of_length_le (by rw [hl.out]; omega), Nat.sub_self, Nat.pow_zero, Nat.mul_one]
      go_wp2_with (go_at_call 38; (with_reducible refine (trim_own hown dz).mono ?_); rintro e w' ⟨m', rfl, hm', ho, rfl⟩)
      go_ret
      exact ⟨_, _, _, rfl, by rw [← hval.out]; exact ho, hbel⟩

/-- whether a number fits into so many bytes that may be asked for -/
def fitsB (v : Nat) (m : Int) : Bool := decide (0 ≤ m ∧ m ≤ 65536 ∧ (bitLen v : Int) ≤ 8 * m)

end Go.Proofs.YtaeamlldocbeeaaDoor
