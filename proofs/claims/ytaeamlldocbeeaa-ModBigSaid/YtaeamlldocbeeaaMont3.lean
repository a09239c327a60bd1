/- zmont: Mul. -/
import Derived.Test.YtaeamlldocbeeaaMontA
namespace Go.Proofs.Ytaeamlldocbeeaa
open Go.RowKit Num

/-- block p is a modulus m of n limbs, whole -/
structure Mo (w : World) (p n m : Nat) : Prop where
  ex : ∃ am cm inv a1 c1 a2 c2, Row w p 103 [.slice am n cm, .int .u64 ((inv : Nat) : Int), .slice a1 n c1, .slice a2 n c2] ∧ Sl .u64 w am n cm (dig 18446744073709551616 m) ∧ inv < 18446744073709551616 ∧
    (m * inv + 1) % 18446744073709551616 = 0 ∧ Vc w a1 n c1 (18446744073709551616 ^ n % m) ∧ Vc w a2 n c2 (18446744073709551616 ^ n * 18446744073709551616 ^ n % m)
  hn : n ≤ 1000000
  odd : m % 2 = 1
  gt : 1 < m

theorem Mo.mo0 {w : World} {p n m : Nat} (h : Mo w p n m) : Mo0 w p n m := by
  obtain ⟨am, cm, inv, a1, c1, a2, c2, h1, h2, _⟩ := h.ex
  exact ⟨⟨am, cm, _, _, _, h1, h2⟩, h.hn⟩

theorem Mo.keep {w w' : World} {p n m : Nat} (h : Mo w p n m) (hb : Below w.heap.size w w') : Mo w' p n m := by
  obtain ⟨am, cm, inv, a1, c1, a2, c2, h1, h2, h3, h4, h5, h6⟩ := h.ex
  exact ⟨⟨am, cm, inv, a1, c1, a2, c2, h1.keep hb, h2.keep hb, h3, h4, h5.keep hb, h6.keep hb⟩, h.hn, h.odd, h.gt⟩

theorem Mo.lt {w : World} {p n m : Nat} (h : Mo w p n m) : m < 18446744073709551616 ^ n := by
  obtain ⟨am, cm, inv, a1, c1, a2, c2, h1, h2, _⟩ := h.ex
  have := val_lt (Dg.dig 18446744073709551616 (by omega) m)
  rwa [val_dig 18446744073709551616 (by omega), h2.len] at this

theorem Mo.pos {w : World} {p n m : Nat} (h : Mo w p n m) : 0 < n := by
  obtain ⟨am, cm, inv, a1, c1, a2, c2, h1, h2, _⟩ := h.ex
  rw [← h2.len]
  exact (lt_dig_length 18446744073709551616 (by omega) 0 m).2 (by rw [Nat.pow_zero]; have := h.gt; omega)

theorem Mo.cop {w : World} {p n m : Nat} (h : Mo w p n m) : Nat.Coprime (18446744073709551616 ^ n) m := coprime_pow_W m n h.odd

/-- a remainder times a power of two is the result -/
def GivesM (w : World) (n m P : Nat) (e : Ending) (w' : World) : Prop := ∃ r, r < m ∧ (r * 18446744073709551616 ^ n) % m = P % m ∧ GivesV w n r e w'

theorem Blk.sldrop {w : World} {b : Nat} {k : IntKind} {T : TypeId} {xs : List Nat} (h : Blk w b k T xs) (o n : Nat) (hn : xs.length = o + n) (hc : n ≤ 9223372036854775807) : Sl k w (some ⟨b, o, none⟩) n n (xs.drop o) := by
  refine ⟨by rw [List.length_drop]; omega, Nat.le_refl _, hc, fun e => by simp at e, fun q e _ => by simp at e; subst e; rfl, ?_⟩
  intro i hi
  rw [List.length_drop] at hi
  refine ⟨b, o, rfl, ?_⟩
  rw [h.cell (o + i) (by omega)]
  simp

theorem shift_list (zs : List Nat) (n : Nat) (hl : zs.length = n + 2) : (zs.drop 1 ++ zs.drop (n + 1)).set (n + 1) 0 = zs.drop 1 ++ [0] := by
  have e : zs.drop (n + 1) = [zs[n + 1]'(by omega)] := by
    rw [List.drop_eq_getElem_cons (i := n + 1) (by omega), List.drop_of_length_le (i := n + 1 + 1) (by omega)]
  rw [e, List.set_append_right _ _ (by rw [List.length_drop]; omega), show n + 1 - (zs.drop 1).length = 0 by rw [List.length_drop]; omega]
  rfl

theorem top_small (us : List Nat) (n : Nat) (hl : us.length = n + 2) (h : val 18446744073709551616 us < 2 * 18446744073709551616 ^ n) (x : Nat) (hx : ∃ h : n < us.length, us[n] = x) : val 18446744073709551616 us = val 18446744073709551616 (us.take n) + 18446744073709551616 ^ n * x := by
  obtain ⟨hp, rfl⟩ := hx
  have h1 := val_take_drop 18446744073709551616 us n (by omega)
  rw [val_drop _ _ _ hp] at h1
  have h2 := val_drop 18446744073709551616 us (n + 1) (by omega)
  rw [List.drop_of_length_le (i := n + 1 + 1) (by omega)] at h2
  simp only [val, Nat.mul_zero, Nat.add_zero] at h2
  rw [h2] at h1
  have hP : 0 < 18446744073709551616 ^ n := Nat.pow_pos (by omega)
  rcases Nat.eq_zero_or_pos (us[n + 1]'(by omega)) with h0 | h0
  · rw [h0, Nat.mul_zero, Nat.add_zero] at h1; exact h1
  · exfalso
    have : 18446744073709551616 ^ n * 2 ≤ 18446744073709551616 ^ n * (us[n] + 18446744073709551616 * us[n + 1]) := Nat.mul_le_mul_left _ (by omega)
    omega

theorem head_mod (us : List Nat) (hd : Dg 18446744073709551616 us) (x : Nat) (hx : ∃ h : 0 < us.length, us[0] = x) : val 18446744073709551616 us % 18446744073709551616 = x := by
  obtain ⟨hp, rfl⟩ := hx
  cases us with
  | nil => simp at hp
  | cons y ys => rw [val, Nat.add_mul_mod_self_left, Nat.mod_eq_of_lt (hd y (by simp))]; rfl

theorem bound1 (P m v T a : Nat) (hm : m < P) (hv : v < m) (hT : T < v + m) (ha : a < 18446744073709551616) : T + a * v < P * 18446744073709551616 * 18446744073709551616 := by
  have h1 : a * v ≤ 18446744073709551616 * P := Nat.mul_le_mul (by omega) (by omega)
  have h2 : P * 18446744073709551616 * 18446744073709551616 = P * 18446744073709551616 * 18446744073709551615 + P * 18446744073709551616 := by omega
  rw [Nat.mul_comm 18446744073709551616 P] at h1
  have h3 : P * 18446744073709551616 * 3 ≤ P * 18446744073709551616 * 18446744073709551615 := Nat.mul_le_mul_left _ (by omega)
  omega

theorem bound2 (P m v T a f : Nat) (hm : m < P) (hv : v < m) (hT : T < v + m) (ha : a < 18446744073709551616) (hf : f < 18446744073709551616) : T + a * v + f * m < P * 18446744073709551616 * 18446744073709551616 := by
  have h1 : a * v ≤ 18446744073709551616 * P := Nat.mul_le_mul (by omega) (by omega)
  have h0 : f * m ≤ 18446744073709551616 * P := Nat.mul_le_mul (by omega) (by omega)
  have h2 : P * 18446744073709551616 * 18446744073709551616 = P * 18446744073709551616 * 18446744073709551615 + P * 18446744073709551616 := by omega
  rw [Nat.mul_comm 18446744073709551616 P] at h1 h0
  have h3 : P * 18446744073709551616 * 4 ≤ P * 18446744073709551616 * 18446744073709551615 := Nat.mul_le_mul_left _ (by omega)
  omega

set_option maxRecDepth 100000 in
set_option maxHeartbeats 1000000 in
theorem mont_any {p n m u v : Nat} {a1 a2 : Option Addr} {c1 c2 : Nat} {w : World} (h : Mo w p n m) (h1 : Vc w a1 n c1 u) (h2 : Vc w a2 n c2 v) (hv : v < m) :
    Calls Try.prog 85 #[.pointer (some ⟨p, 0, none⟩), .slice a1 n c1, .slice a2 n c2] w (GivesM w n m (u * v)) := by
  have hn := h.hn
  have hlt := h.lt
  have hpos := h.pos
  have H0 := h.mo0
  obtain ⟨am, cm, inv, b1, d1, b2, d2, hr, hm, hinv, hq, _, _⟩ := h.ex
  obtain ⟨X, hX, dX, vX⟩ := h1.ex
  obtain ⟨Y, hY, dY, vY⟩ := h2.ex
  have hc0 := hr.cell 0
  have hc1 := hr.cell 1
  simp only [List.getElem?_cons_zero, List.getElem?_cons_succ] at hc0 hc1
  have VX := mkHid vX
  have VY := mkHid vY
  have HQ := mkHid hq
  have vM := mkHid (val_dig 18446744073709551616 (by omega) m)
  have dM := Dg.dig 18446744073709551616 (by omega) m
  have HLT := mkHid hlt
  generalize dig 18446744073709551616 m = M at *
  clear vX vY hq h1 h2 h hlt
  go_enter Try.func85, Try.ntmps85
  go_wp2_with (first
    | (at_make; refine wpList_mk rfl _ _ _ rfl 54 .u64 8 under_u64s info_u64 (n + 2) rfl rfl (by omega) (by omega) (by omega) (by omega) ?_; intro b w2 hB hblk hbel))
  go_loopw [19] (fun iv wr => ∃ (i : Nat) (us : List Nat), i ≤ n ∧ iv = .int .i64 i ∧ Hid (us.length = n + 2) ∧ Dg 18446744073709551616 us ∧
    Hid (Redc 18446744073709551616 m v (18446744073709551616 ^ i) (val 18446744073709551616 (X.take i)) (val 18446744073709551616 us)) ∧ Blk wr b .u64 54 us ∧ Below w.heap.size w wr) (fun iv _ => n - (intOf iv).toNat)
  case atStart =>
    refine ⟨0, _, Nat.zero_le _, rfl, by show _ = _; simp, Dg.replicate (by omega) _, ?_, hblk, hbel⟩
    exact ⟨⟨0, by simp, by simp [val_replicate, val]⟩, by simp [val]⟩
  case round =>
    clear hblk hbel
    obtain ⟨i, us, hi, rfl, hu, du, hv', hblk, hbel⟩ := hrel
    have hT := mkHid (hv'.out.lt (by omega))
    by_cases hlt : i < n
    · obtain ⟨b3, o3, x, rfl, hcx, hx⟩ := (hX.keep hbel).get i hlt
      have hxW : x < 18446744073709551616 := by obtain ⟨h, e⟩ := hx.out; rw [← e]; exact dX.at _ h
      have hc0' := (hr.keep hbel).cell 0
      have hc1' := (hr.keep hbel).cell 1
      simp only [List.getElem?_cons_zero, List.getElem?_cons_succ] at hc0' hc1'
      have hz1 := mkHid (zadd_any hblk du hu.out (hY.keep hbel) dY (hY.old hB hpos) hxW (by omega) (by rw [VY.out, Nat.pow_succ, Nat.pow_succ]; exact bound1 _ _ _ _ _ HLT.out hv hT.out hxW))
      clear hc0 hc1
      go_upto_region 7 with (first
        | (go_at_call 93; (with_reducible refine hz1.out.mono ?_); rintro e w' ⟨us1, rfl, hu1, du1, hv1, hblk1, hg1⟩))
      have hv1' := mkHid hv1
      have hu1' := mkHid hu1
      have hbel1 := hbel.trans (grown_below hg1 hB hbel.size)
      have hc0a := (hr.keep hbel1).cell 0
      have hc1a := (hr.keep hbel1).cell 1
      simp only [List.getElem?_cons_zero, List.getElem?_cons_succ] at hc0a hc1a
      obtain ⟨x0, hcb, hfb, hx0⟩ := hblk1.get 0 (by rw [hu1]; omega)
      have hx0m := head_mod us1 du1 x0 hx0.out
      have hx0W : x0 < 18446744073709551616 := by obtain ⟨h, e⟩ := hx0.out; rw [← e]; exact du1.at _ h
      obtain ⟨f, hf⟩ : ∃ f, f = x0 * inv % 18446744073709551616 := ⟨_, rfl⟩
      have hfW : f < 18446744073709551616 := by rw [hf]; exact Nat.mod_lt _ (by omega)
      have hfw : IntKind.u64.wrap ((x0 : Int) * (inv : Int)) = (f : Int) := by rw [← Int.natCast_mul, u64_nat, hf]
      have HF := mkHid hf
      have HX0 := mkHid hx0m
      clear hc0' hc1' hv1 hu1 hf hx0m
      have hz2 := mkHid (zadd_any (w := w'.drew) hblk1 du1 hu1'.out (hm.keep hbel1.drew) dM (hm.old hB hpos) hfW (by omega) (by rw [vM.out, hv1'.out, VY.out, Nat.pow_succ, Nat.pow_succ]; exact bound2 _ _ _ _ _ _ HLT.out hv hT.out hxW hfW))
      have j0 : (0 : Int) < ((n + 2 : Nat) : Int) := by omega
      have j1 : 0 < n + 2 := by omega
      have j2 : (0 : Int) < (n : Int) + 2 := by omega
      go_still_tail 13, (by kernel_rfl)
      change wpList _ _ _ _ _ w'.drew
      have hbel1d := hbel1.drew
      have hg1d : w'.grownBy w'.drew (some b) := grown_drewN w' 1 _
      generalize w'.drew = wd at *
      go_upto_region 8 with (first
        | (go_at_call 93; (with_reducible refine hz2.out.mono ?_); rintro e w'' ⟨us2, rfl, hu2, du2, hv2, hblk2, hg2⟩))
      have hu2' := mkHid hu2
      have hv2' := mkHid hv2
      have hbel2 := hbel1d.trans (grown_below hg2 hB hbel1d.size)
      clear hu2 hv2
      obtain ⟨w5, hcp, hb5, hg5⟩ := run_cpx (P := Try.prog) 22 22 3 54 under_u64s size_u64' b (n + 2) (n + 2) (some ⟨b, 1, none⟩) (n + 1) (n + 1) .u64 _ _ hblk2
        (hblk2.sldrop 1 (n + 1) (by rw [hu2'.out]; omega) (by omega)) (by omega) (by rw [hu2'.out]; omega)
      simp only [goInt] at hcp
      obtain ⟨z0, hcz, hfz, _⟩ := hb5.get (n + 1) (by rw [List.length_append, List.length_drop, List.length_drop, hu2'.out]; omega)
      have j3 : (0 : Int) ≤ ((n + 2 : Nat) : Int) := by omega
      have j4 : (1 : Int) ≤ ((n + 2 : Nat) : Int) := by omega
      have hbel5 := hbel2.trans (grown_below hg5 hB hbel2.size)
      go_wp2
      go_roundw
      case rel =>
        have hs := hb5.set (n + 1) 0
        rw [shift_list us2 n hu2'.out] at hs
        refine ⟨i + 1, us2.drop 1 ++ [0], by omega, by go_num, ?_, (du2.drop 1).snoc (by omega), ?_, hs, hbel5.setCell hB _⟩
        · show _ = _
          rw [List.length_append, List.length_drop, hu2'.out]; rfl
        · obtain ⟨hp, ex⟩ := hx.out
          show Redc _ _ _ _ _ _
          rw [Nat.pow_succ, val_take_succ _ X _ hp, ex]
          refine hv'.out.step x inv _ hxW (by omega) HQ.out ?_
          rw [val_snoc, Nat.mul_zero, Nat.add_zero, val_shift _ _ du2 (by rw [hu2'.out]; omega), hv2'.out, HF.out, ← HX0.out, hv1'.out, VY.out, vM.out]
      case measure => simp [intOf]; omega
    · obtain rfl : i = n := by omega
      have hfull : X.take i = X := List.take_of_length_le (by rw [hX.len]; exact Nat.le_refl _)
      have HR := hv'.out
      rw [hfull, VX.out] at HR
      obtain ⟨x, hcb, hfb, hx⟩ := hblk.get i (by rw [hu.out]; omega)
      have htop := top_small us i hu.out (by have := HLT.out; have := hT.out; omega) x hx.out
      have hxW : x < 18446744073709551616 := by obtain ⟨h, e⟩ := hx.out; rw [← e]; exact du.at _ h
      obtain ⟨r, hr0⟩ : ∃ r, r = if val 18446744073709551616 us < m then val 18446744073709551616 us else val 18446744073709551616 us - m := ⟨_, rfl⟩
      obtain ⟨hrm, hrr⟩ := HR.fin hv r hr0
      have hsl : Sl .u64 wr (some ⟨b, 0, none⟩) i (i + 2) (us.take i) := ((Own.ofBlk (B := 0) hblk (Nat.zero_le _) (i + 2) hu.out (by omega)).take i (by omega)).sl
      have hbw := mkHid (below_any (w := wr.drew) (H0.keep hbel.drew) (hsl.keep (Below.refl _ _).drew) (du.take i) hxW (by omega) htop (by have := hT.out; omega) hr0)
      have hrr' := mkHid hrr
      clear hr0 htop hrr HR hc0 hc1
      have j0 : (0 : Int) ≤ (i : Int) := by omega
      have j1 : (i : Int) ≤ ((i + 2 : Nat) : Int) := by omega
      have j2 : (i : Int) < ((i + 2 : Nat) : Int) := by omega
      have j3 : i ≤ i + 2 := by omega
      have j4 : i < i + 2 := by omega
      have j5 : (i : Int) ≤ (i : Int) + 2 := by omega
      have j6 : (i : Int) < (i : Int) + 2 := by omega
      have j7 : (0 : Int) ≤ (i : Int) + 2 := by omega
      go_upto_region 11 with (fail)
      go_still_tail 8, (by kernel_rfl)
      change wpList _ _ _ _ _ wr.drew
      have hbeld := hbel.drew
      generalize wr.drew = wd at *
      go_wp2_with (first
        | (go_at_call 94; (with_reducible refine hbw.out.mono ?_); rintro e w' ⟨ar, cr, rfl, hvr, hbr⟩))
      go_ret
      exact ⟨r, hrm, hrr'.out, ar, cr, rfl, hvr, hbeld.trans (hbr.mono hbeld.size)⟩

end Go.Proofs.Ytaeamlldocbeeaa
