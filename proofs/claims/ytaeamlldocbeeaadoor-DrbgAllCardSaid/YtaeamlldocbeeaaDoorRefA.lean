/- RefA: Ref1, Ref2, Ref3. -/
import Derived.Test.YtaeamlldocbeeaaDoorLimbD
import Derived.Test.YtaeamlldocbeeaaDoorNumA

/- baileyref1: trim, From, To, Is, Cmp. -/

namespace Go.Proofs.YtaeamlldocbeeaaDoor
open Go.RowKit Num

/-- a slice that reads a number's digits to the base 2^32 is the result -/
def GivesR (w : World) (v : Nat) (e : Ending) (w' : World) : Prop :=
  ∃ a n c, e = .returned (.slice a n c) ∧ Sl .u64 w' a n c (dig 4294967296 v) ∧ Below w.heap.size w w'

theorem rtrim_any {a : Option Addr} {n c : Nat} {xs : List Nat} {w : World} (h : Sl .u64 w a n c xs) :
    Calls Tryd.prog 27 #[.slice a n c] w fun e w' => e = .returned (.slice a (tlen xs) (tlen xs)) ∧ w = w' := by
  cases a with
  | none =>
    obtain rfl : c = 0 := h.nil rfl
    obtain rfl : n = 0 := by have := h.le; omega
    obtain rfl : xs = [] := List.eq_nil_of_length_eq_zero h.len
    clear h
    go_enter Tryd.func27, Tryd.ntmps27
    go_wp2
    refine wp_loop_once ?_
    go_wp2
    go_ret
    exact ⟨rfl, rfl⟩
  | some p =>
    by_cases hc0 : c = 0
    · subst hc0
      obtain rfl : n = 0 := by have := h.le; omega
      obtain rfl : xs = [] := List.eq_nil_of_length_eq_zero h.len
      clear h
      go_enter Tryd.func27, Tryd.ntmps27
      go_wp2
      refine wp_loop_once ?_
      go_wp2
      go_ret
      exact ⟨rfl, rfl⟩
    obtain ⟨b, o, s⟩ := p
    have hs := h.spot _ rfl (by omega)
    simp at hs
    subst hs
    have hm := h.cap
    have hc := h.le
    have HN := mkHid h.len
    have HR := mkHid h
    clear h
    go_enter Tryd.func27, Tryd.ntmps27
    go_wp2
    go_loop [3] (fun i => ∃ k : Nat, k ≤ n ∧ i = .int .i64 k ∧ Hid (tlen xs = tlen (xs.take k))) (fun i => (intOf i).toNat)
    case atStart => exact ⟨n, Nat.le_refl _, rfl, by show tlen xs = _; rw [List.take_of_length_le (by rw [HN.out]; exact Nat.le_refl _)]⟩
    case round =>
      obtain ⟨k, hk, rfl, ht⟩ := hrel
      by_cases h0 : 0 < k
      · obtain ⟨j, rfl⟩ : ∃ j, k = j + 1 := ⟨k - 1, by omega⟩
        have hj : j < xs.length := by rw [HN.out]; omega
        have hx := HR.out.cell j hj
        generalize hxv : xs[j] = x at hx
        have HX := mkHid hxv
        clear hxv
        by_cases hz : x = 0
        · have hb : ((x : Int) == 0) = true := by simp [hz]
          have HZ := mkHid hz
          clear hz
          go_wp2
          go_round
          case rel => exact ⟨j, by omega, by go_num, by show tlen xs = _; rw [ht.out]; exact tlen_take _ _ hj (HX.out.trans HZ.out)⟩
          case measure => simp [intOf]
        · have hb : ((x : Int) == 0) = false := by simp [hz]
          have HZ := mkHid hz
          clear hz
          go_wp2
          go_ret
          refine ⟨?_, rfl⟩
          rw [ht.out, tlen_ne _ _ hj (by rw [HX.out]; exact HZ.out)]
          rfl
      · obtain rfl : k = 0 := by omega
        go_wp2
        go_ret
        refine ⟨?_, rfl⟩
        rw [ht.out]; rfl

theorem rtrim_sl {a : Option Addr} {n c : Nat} {xs : List Nat} {w : World} (h : Sl .u64 w a n c xs) (hd : Dg 4294967296 xs) :
    Calls Tryd.prog 27 #[.slice a n c] w fun e w' => ∃ m, e = .returned (.slice a m m) ∧ m ≤ n ∧ Sl .u64 w a m m (dig 4294967296 (val 4294967296 xs)) ∧ w = w' := by
  refine (rtrim_any h).mono fun _ _ ⟨he, hw⟩ => ⟨_, he, by rw [← h.len]; exact tlen_le xs, ?_, hw⟩
  rw [dig_val _ (by omega) hd]
  have ht := h.take (tlen xs) (by rw [← h.len]; exact tlen_le xs)
  refine ⟨ht.len, Nat.le_refl _, by have := ht.cap; have := ht.le; omega, fun e => ?_, fun p e h0 => ht.spot p e (by have := ht.le; omega), ht.rd⟩
  have := ht.nil e
  have := ht.le
  omega

/-- the digits of a row of its own, trimmed -/
theorem rtrim_blk {T B b n : Nat} {xs : List Nat} {w : World} (h : Blk w b .u64 T xs) (hn : xs.length = n) (hc : n ≤ 9223372036854775807) (hd : Dg 4294967296 xs) (_hB : B ≤ b) :
    Calls Tryd.prog 27 #[.slice (some ⟨b, 0, none⟩) n n] w fun e w' => ∃ m, e = .returned (.slice (some ⟨b, 0, none⟩) m m) ∧ m ≤ n ∧ Sl .u64 w (some ⟨b, 0, none⟩) m m (dig 4294967296 (val 4294967296 xs)) ∧ w = w' :=
  rtrim_sl (h.sl n hn hc) hd

theorem from_any {a : Option Addr} {n c : Nat} {xs : List Nat} {w : World} (h1 : Sl .u64 w a n c xs) (hd : Dg 18446744073709551616 xs) (hn1 : n ≤ 1099511627776) :
    Calls Tryd.prog 12 #[.slice a n c] w (GivesR w (val 18446744073709551616 xs)) := by
  have hl := mkHid h1.len
  go_enter Tryd.func12, Tryd.ntmps12
  go_wp2_with (first
    | (at_make; refine wpList_mk rfl _ _ _ rfl 47 .u64 8 under_ref info_u64 (2 * n) rfl rfl (by omega) (by omega) (by omega) (by omega) ?_; intro b w2 hB hblk hbel))
  go_loopw [4] (fun iv wr => ∃ (i : Nat) (zs : List Nat), i ≤ n ∧ iv = .int .i64 i ∧ Hid (zs.length = 2 * i) ∧ Dg 4294967296 zs ∧
      Hid (val 4294967296 zs = val 18446744073709551616 (xs.take i)) ∧ Blk wr b .u64 47 (zs ++ List.replicate (2 * n - 2 * i) 0) ∧ Below w.heap.size w wr) (fun iv _ => n - (intOf iv).toNat)
  case atStart => exact ⟨0, [], Nat.zero_le _, rfl, rfl, Dg.nil, rfl, by simpa using hblk, hbel⟩
  case round =>
    clear hblk hbel
    obtain ⟨i, zs, hi, rfl, hz, dz, hv, hblk, hbel⟩ := hrel
    by_cases hlt : i < n
    · obtain ⟨b1, o1, x, rfl, hcx, hx⟩ := (h1.keep hbel).get i hlt
      have hxW : x < 18446744073709551616 := by obtain ⟨h, e⟩ := hx.out; rw [← e]; exact hd.at _ h
      obtain ⟨lo, hlo⟩ : ∃ lo, lo = x % 4294967296 := ⟨_, rfl⟩
      obtain ⟨hi', hhi⟩ : ∃ hi, hi = x / 4294967296 := ⟨_, rfl⟩
      have e1 : (x : Int) % 4294967296 = (lo : Int) := by omega
      have e2 : (x : Int) / 4294967296 = (hi' : Int) := by omega
      have hloV : lo < 4294967296 := by omega
      have hhiV : hi' < 4294967296 := by omega
      have hxe : Hid (lo + 4294967296 * hi' = x) := by show _ = _; omega
      clear hlo hhi
      obtain ⟨z0, hcb, hfb, _⟩ := hblk.get (2 * i) (by rw [length_grow zs (2 * i) (2 * n) 0 hz.out (by omega)]; omega)
      obtain ⟨z1, hcb1, hfb1, _⟩ := hblk.get (2 * i + 1) (by rw [length_grow zs (2 * i) (2 * n) 0 hz.out (by omega)]; omega)
      have hcx2 := (h1.keep (hbel.setCell (p := ⟨b, 2 * i, none⟩) hB (.int .u64 (lo : Int)))).cell i (by rw [hl.out]; exact hlt)
      obtain ⟨hxl, hxv⟩ := hx.out
      rw [hxv] at hcx2
      have HXV := mkHid hxv
      clear hxv
      go_wp2
      go_roundw
      case rel =>
        refine ⟨i + 1, zs ++ [lo, hi'], by omega, by go_num, ?_, dz.append (Dg.cons hloV (Dg.cons hhiV Dg.nil)), ?_, ?_, (hbel.setCell hB _).setCell hB _⟩
        · show _ = _
          rw [List.length_append, hz.out]; simp; omega
        · show _ = _
          rw [val_two, hz.out, hxe.out, pow_VW, hv.out, val_take_succ _ _ _ hxl, HXV.out]
        · have := (hblk.set (2 * i) lo).set (2 * i + 1) hi'
          rw [set_grow2 zs (2 * i) (2 * n) lo hi' hz.out (by omega)] at this
          exact this
      case measure => simp [intOf]; omega
    · obtain rfl : i = n := by omega
      rw [Nat.sub_self, List.replicate_zero, List.append_nil] at hblk
      have hval : Hid (val 4294967296 zs = val 18446744073709551616 xs) := by
        show _ = _
        rw [hv.out, List.take_of_length_le (by rw [hl.out]; exact Nat.le_refl _)]
      go_wp2_with (go_at_call 27; (with_reducible refine (rtrim_blk hblk hz.out (by omega) dz hB).mono ?_); rintro e w' ⟨m', rfl, hm', ho, rfl⟩)
      go_ret
      exact ⟨_, _, _, rfl, by rw [← hval.out]; exact ho, hbel⟩

end Go.Proofs.YtaeamlldocbeeaaDoor

/- baileyref1: Cmp, To, Is. -/

namespace Go.Proofs.YtaeamlldocbeeaaDoor
open Go.RowKit Num

theorem rcmp_any {a1 a2 : Option Addr} {n1 c1 n2 c2 x y : Nat} {w : World} (h1 : Sl .u64 w a1 n1 c1 (dig 4294967296 x)) (h2 : Sl .u64 w a2 n2 c2 (dig 4294967296 y)) (hn1 : n1 ≤ 1099511627776) :
    Calls Tryd.prog 61 #[.slice a1 n1 c1, .slice a2 n2 c2] w (GivesInt .i64 w (cmpI x y)) := by
  have dX := Dg.dig 4294967296 (by omega) x
  have dY := Dg.dig 4294967296 (by omega) y
  have vX := mkHid (val_dig 4294967296 (by omega) x)
  have vY := mkHid (val_dig 4294967296 (by omega) y)
  by_cases hne : n1 = n2
  · obtain rfl := hne
    have t1 : ((n1 : Int) != (n1 : Int)) = false := bne_f rfl
    go_enter Tryd.func61, Tryd.ntmps61
    go_wp2
    go_loopw [5] (fun i wr => ∃ k : Nat, k ≤ n1 ∧ i = .int .i64 ((k : Int) - 1) ∧ Hid ((dig 4294967296 x).drop k = (dig 4294967296 y).drop k) ∧ Below w.heap.size w wr) (fun i _ => (intOf i + 1).toNat)
    case atStart =>
      refine ⟨n1, Nat.le_refl _, rfl, ?_, Below.refl _ _⟩
      show _ = _
      rw [List.drop_of_length_le (by rw [h1.len]; exact Nat.le_refl _), List.drop_of_length_le (by rw [h2.len]; exact Nat.le_refl _)]
    case round =>
      obtain ⟨k, hk, rfl, hX, hb⟩ := hrel
      cases k with
      | zero =>
        rw [show ((0 : Nat) : Int) - 1 = -1 from rfl]
        go_wp2
        go_ret
        refine ⟨ret1 ?_, hb⟩
        have e := hX.out
        simp only [List.drop_zero] at e
        have e2 := dig_inj _ (by omega) e
        unfold cmpI
        rw [if_neg (by omega), if_pos e2]
      | succ j =>
        rw [show ((j + 1 : Nat) : Int) - 1 = (j : Int) by omega]
        obtain ⟨b1, o1, u, rfl, hc1, hx⟩ := (h1.keep hb).get j (by omega)
        obtain ⟨b2, o2, v, rfl, hc2, hy⟩ := (h2.keep hb).get j (by omega)
        obtain ⟨i1, e1⟩ := hx.out
        obtain ⟨i2, e2⟩ := hy.out
        have HX := mkHid e1
        have HY := mkHid e2
        clear e1 e2
        by_cases hlt : u < v
        · have hv : x < y := by
            have := val_cmp_aux dX dY j i1 i2 (by rw [h1.len, h2.len]) hX.out (by rw [HX.out, HY.out]; exact hlt)
            rwa [vX.out, vY.out] at this
          have t2 : decide (u < v) = true := decide_eq_true hlt
          go_wp2
          go_quiet (fail)
          go_wp2
          go_ret
          refine ⟨ret1 ?_, hb.trans ⟨rfl, rfl, rfl, Nat.le_refl _, fun _ _ => rfl⟩⟩
          unfold cmpI
          rw [if_pos hv]
        · have t2 : decide (u < v) = false := decide_eq_false hlt
          by_cases hgt : v < u
          · have hv : y < x := by
              have := val_cmp_aux dY dX j i2 i1 (by rw [h1.len, h2.len]) hX.out.symm (by rw [HX.out, HY.out]; exact hgt)
              rwa [vX.out, vY.out] at this
            have t3 : decide (v < u) = true := decide_eq_true hgt
            go_wp2
            go_quiet (fail)
            go_wp2
            go_quiet (fail)
            go_wp2
            go_ret
            refine ⟨ret1 ?_, hb.trans ⟨rfl, rfl, rfl, Nat.le_refl _, fun _ _ => rfl⟩⟩
            unfold cmpI
            rw [if_neg (by omega), if_neg (by omega)]
          · have t3 : decide (v < u) = false := decide_eq_false hgt
            have huv : Hid (u = v) := by show _ = _; omega
            go_wp2
            go_quiet (fail)
            go_wp2
            go_quiet (fail)
            go_wp2
            go_roundw
            case rel =>
              refine ⟨j, by omega, by go_num, ?_, hb.trans ⟨rfl, rfl, rfl, Nat.le_refl _, fun _ _ => rfl⟩⟩
              show _ = _
              rw [List.drop_eq_getElem_cons i1, List.drop_eq_getElem_cons i2, hX.out, HX.out, HY.out, huv.out]
            case measure => simp [intOf]
  · have t1 : ((n1 : Int) != (n2 : Int)) = true := bne_t hne
    by_cases hlt : n1 < n2
    · have t2 : decide (n1 < n2) = true := decide_eq_true hlt
      have h3 := val_lt_of_length (n := y) dX (by omega) rfl (by rw [h1.len, h2.len]; exact hlt)
      rw [vX.out] at h3
      clear hne
      go_enter Tryd.func61, Tryd.ntmps61
      go_wp2
      go_ret
      refine ⟨ret1 ?_, Below.refl _ _⟩
      unfold cmpI
      rw [if_pos h3]
    · have t2 : decide (n1 < n2) = false := decide_eq_false hlt
      have h3 := val_lt_of_length (n := x) dY (by omega) rfl (by rw [h1.len, h2.len]; omega)
      rw [vY.out] at h3
      clear hne
      go_enter Tryd.func61, Tryd.ntmps61
      go_wp2
      go_ret
      refine ⟨ret1 ?_, Below.refl _ _⟩
      unfold cmpI
      rw [if_neg (by omega), if_neg (by omega)]

theorem to_any {a1 : Option Addr} {n1 c1 v : Nat} {w : World} (h1 : Sl .u64 w a1 n1 c1 (dig 4294967296 v)) (hn1 : n1 ≤ 1099511627776) :
    Calls Tryd.prog 28 #[.slice a1 n1 c1] w (Gives .u64 47 w (dig 18446744073709551616 v)) := by
  have dX := Dg.dig 4294967296 (by omega) v
  have vX := mkHid (val_dig 4294967296 (by omega) v)
  have hlimb := limbs_of_digits v
  rw [h1.len] at hlimb
  have HL := mkHid hlimb
  clear hlimb
  have hl := mkHid h1.len
  generalize dig 4294967296 v = X at *
  go_enter Tryd.func28, Tryd.ntmps28
  go_wp2
  go_loopw [3, 4] (fun lv iv wr => ∃ (j k c : Nat) (a : Option Addr) (zs : List Nat), 2 * j ≤ n1 + 1 ∧ k = 2 * j ∧ lv = .slice a j c ∧ iv = .int .i64 (k : Int) ∧ Own .u64 47 w.heap.size wr a j c zs ∧ Dg 18446744073709551616 zs ∧
      Hid (val 18446744073709551616 zs = val 4294967296 (X.take (2 * j))) ∧ Below w.heap.size w wr) (fun _ iv _ => n1 + 1 - (intOf iv).toNat)
  case atStart => exact ⟨0, 0, 0, none, [], Nat.zero_le _, rfl, rfl, rfl, Own.nilOwn _ _ _ _, Dg.nil, rfl, Below.refl _ _⟩
  case round =>
    obtain ⟨j, k, c, a, zs, hj, hk, rfl, rfl, ho, dz, hv, hb⟩ := hrel
    have HK := mkHid hk
    have hk1 : k ≤ n1 + 1 := by omega
    clear hk
    by_cases hlt : k < n1
    · obtain ⟨b1, o1, x, rfl, hcx, hx⟩ := (h1.keep hb).get k hlt
      have hxV : x < 4294967296 := by obtain ⟨h, e⟩ := hx.out; rw [← e]; exact dX.at _ h
      by_cases hlt2 : k + 1 < n1
      · have hcy := (h1.keep hb).cell (k + 1) (by rw [hl.out]; exact hlt2)
        have hyV := dX.at (k + 1) (by rw [hl.out]; exact hlt2)
        obtain ⟨y, hy⟩ : ∃ y, y = X[k + 1]'(by rw [hl.out]; exact hlt2) := ⟨_, rfl⟩
        rw [← hy] at hcy hyV
        have HY := mkHid hy
        clear hy
        have t1 : decide ((k : Int) + 1 < (n1 : Int)) = true := decide_eq_true (by omega)
        obtain ⟨z, hz⟩ : ∃ z, z = x + 4294967296 * y := ⟨_, rfl⟩
        have e1 : (x : Int) + (y : Int) * 4294967296 = (z : Int) := by omega
        have hzW : z < 18446744073709551616 := by omega
        have HZ := mkHid hz
        clear hz
        go_wp2_with (at_builtin; refine wpList_app rfl (.tmp 29) (.tmp 31) 31 rfl 47 .u64 8 under_nat info_u64 w.heap.size _ _ _ _ rfl (ho.keep (below_alloc _ (Nat.le_refl _))) _ _ _ [z] rfl ((Blk.new1 wr .u64 47 z).sl 1 rfl (by omega)) (by omega) (by omega) (by rw [World.size_alloc]; have := hb.size; omega) ?_; intro a3 c3 w3 ho3 hb3)
        go_roundw
        case rel =>
          refine ⟨j + 1, k + 2, c3, a3, _, by have := HK.out; omega, by have := HK.out; omega, rfl, by go_num, ho3, dz.snoc hzW, ?_, (hb.alloc hb.size _).trans hb3⟩
          show _ = _
          obtain ⟨hh, e⟩ := hx.out
          rw [val_snoc, ho.len, hv.out, HZ.out, ← HK.out, show 2 * (j + 1) = k + 1 + 1 by rw [HK.out]; omega, val_take_succ _ _ _ (by rw [hl.out]; exact hlt2), val_take_succ _ _ _ hh, e, ← HY.out, ← pow_VW, ← HK.out, Nat.pow_succ, Nat.mul_add, Nat.mul_assoc, Nat.add_assoc]
        case measure => simp [intOf]; omega
      · have t1 : decide ((k : Int) + 1 < (n1 : Int)) = false := decide_eq_false (by omega)
        go_wp2_with (at_builtin; refine wpList_app rfl (.tmp 29) (.tmp 31) 31 rfl 47 .u64 8 under_nat info_u64 w.heap.size _ _ _ _ rfl (ho.keep (below_alloc _ (Nat.le_refl _))) _ _ _ [x] rfl ((Blk.new1 wr .u64 47 x).sl 1 rfl (by omega)) (by omega) (by omega) (by rw [World.size_alloc]; have := hb.size; omega) ?_; intro a3 c3 w3 ho3 hb3)
        go_roundw
        case rel =>
          refine ⟨j + 1, k + 2, c3, a3, _, by have := HK.out; omega, by have := HK.out; omega, rfl, by go_num, ho3, dz.snoc (by omega), ?_, (hb.alloc hb.size _).trans hb3⟩
          show _ = _
          obtain ⟨hh, e⟩ := hx.out
          have e2 := val_take_succ 4294967296 X k hh
          rw [val_snoc, ho.len, hv.out, ← HK.out, ← pow_VW, ← HK.out]
          rw [List.take_of_length_le (i := 2 * (j + 1)) (by rw [hl.out]; have := HK.out; omega)]
          rw [List.take_of_length_le (i := k + 1) (by rw [hl.out]; omega), e] at e2
          exact e2.symm
        case measure => simp [intOf]; omega
    · go_wp2
      go_ret
      refine ⟨_, _, _, rfl, ?_, hb⟩
      have hval : val 18446744073709551616 zs = v := by
        rw [hv.out, List.take_of_length_le (by rw [hl.out]; have := HK.out; omega), vX.out]
      have : zs = dig 18446744073709551616 v := eq_dig (by omega) dz hval (by rw [ho.len, HL.out]; have := HK.out; omega)
      rw [← this]
      exact ho

/-- Is: a limb number's canonical digits -/
theorem is_any {a1 a2 : Option Addr} {n1 c1 n2 c2 v : Nat} {xs : List Nat} {w : World} (h1 : Sl .u64 w a1 n1 c1 xs) (h2 : Sl .u64 w a2 n2 c2 (dig 4294967296 v)) (hn1 : n1 ≤ 1099511627776) (hn2 : n2 ≤ 1099511627776) :
    Calls Tryd.prog 13 #[.slice a1 n1 c1, .slice a2 n2 c2] w (GivesBool w (decide (xs = dig 18446744073709551616 v))) := by
  have hto := mkHid (to_any h2 hn2)
  have hl1 := mkHid h1.len
  go_enter Tryd.func13, Tryd.ntmps13
  go_upto_if 13 with (go_at_call 28; (with_reducible refine hto.out.mono ?_); rintro e w1 ⟨a3, n3, c3, rfl, ho, hb1⟩)
  have hl3 := mkHid ho.len
  have hs3 := ho.sl
  generalize dig 18446744073709551616 v = Z at *
  by_cases hne : n1 = n3
  · obtain rfl := hne
    have t1 : ((n1 : Int) != (n1 : Int)) = false := bne_f rfl
    rw [t1]
    go_wp2
    go_loopw [6] (fun iv wr => ∃ i : Nat, i ≤ n1 ∧ iv = .int .i64 (i : Int) ∧ Hid (xs.take i = Z.take i) ∧ Below w1.heap.size w1 wr) (fun iv _ => n1 - (intOf iv).toNat)
    case atStart => exact ⟨0, Nat.zero_le _, rfl, rfl, Below.refl _ _⟩
    case round =>
      obtain ⟨i, hi, rfl, hX, hb⟩ := hrel
      by_cases hlt : i < n1
      · obtain ⟨b1, o1, u, rfl, hc1, hx⟩ := ((h1.keep hb1).keep hb).get i hlt
        obtain ⟨b2, o2, x, rfl, hc2, hy⟩ := (hs3.keep hb).get i hlt
        obtain ⟨i1, e1⟩ := hx.out
        obtain ⟨i2, e2⟩ := hy.out
        have HX := mkHid e1
        have HY := mkHid e2
        clear e1 e2
        by_cases hxy : u = x
        · have hq := bne_f hxy
          have HXY := mkHid hxy
          clear hxy
          go_wp2
          go_quiet (fail)
          go_wp2
          go_roundw
          case rel =>
            refine ⟨i + 1, by omega, by go_num, ?_, hb.trans ⟨rfl, rfl, rfl, Nat.le_refl _, fun _ _ => rfl⟩⟩
            show _ = _
            rw [take_snoc _ _ i1, take_snoc _ _ i2, hX.out, HX.out, HY.out, HXY.out]
          case measure => simp [intOf]; omega
        · have hq := bne_t hxy
          have HXY : Hid (¬ xs = Z) := by
            intro h
            subst h
            exact hxy (HX.out.symm.trans HY.out)
          clear hxy
          go_wp2
          go_quiet (fail)
          go_wp2
          go_ret
          refine ⟨?_, hb1.trans ((hb.trans (below_drewN _ _ _)).mono hb1.size)⟩
          rw [decide_eq_false HXY.out]; rfl
      · obtain rfl : i = n1 := by omega
        have HXY : Hid (xs = Z) := by
          have e := hX.out
          rw [List.take_of_length_le (by rw [hl1.out]; exact Nat.le_refl _), List.take_of_length_le (by rw [hl3.out]; exact Nat.le_refl _)] at e
          exact e
        go_wp2
        go_ret
        refine ⟨?_, hb1.trans (hb.mono hb1.size)⟩
        rw [decide_eq_true HXY.out]; rfl
  · have t1 : ((n1 : Int) != (n3 : Int)) = true := bne_t hne
    have HXY : Hid (¬ xs = Z) := by
      intro h
      subst h
      exact hne (hl1.out.symm.trans hl3.out)
    clear hne
    rw [t1]
    go_wp2
    go_ret
    refine ⟨?_, hb1⟩
    rw [decide_eq_false HXY.out]; rfl

end Go.Proofs.YtaeamlldocbeeaaDoor

/- baileyref1: Add, Sub, Mul. -/

namespace Go.Proofs.YtaeamlldocbeeaaDoor
open Go.RowKit Num

end Go.Proofs.YtaeamlldocbeeaaDoor
