/- ModBig: the walk: it answers true. -/
import Derived.Test.YtaeamlldocbeeaaFew2
namespace Go.Proofs.Ytaeamlldocbeeaa
open Go.RowKit Num

theorem mbig_low (m : Int) (w : World) (h : m < 60) : Calls Try.prog 11 #[.int .i64 m] w (GivesBool w true) := by
  have t1 : decide (m < 60) = true := decide_eq_true h
  go_enter Try.func11, Try.ntmps11
  go_wp2_with (go_at_call 40; (with_reducible refine (begun2_any _).mono ?_); rintro e w' ⟨rfl, hb⟩)
  go_ret
  exact ⟨rfl, hb⟩

theorem mbig_high (m : Int) (w : World) (h : 70 < m) : Calls Try.prog 11 #[.int .i64 m] w (GivesBool w true) := by
  have t1 : decide (m < 60) = false := decide_eq_false (by omega)
  have t2 : decide (m > 70) = true := decide_eq_true h
  go_enter Try.func11, Try.ntmps11
  go_wp2_with (go_at_call 40; (with_reducible refine (begun2_any _).mono ?_); rintro e w' ⟨rfl, hb⟩)
  go_ret
  exact ⟨rfl, hb⟩

theorem set_last (i : Nat) : (List.replicate (i + 1) 0).set i 1 = List.replicate i 0 ++ [1] := by
  rw [List.replicate_succ', List.set_append_right _ _ (by simp)]
  simp

theorem top_val (i : Nat) : val 18446744073709551616 ((List.replicate (i + 1) 0).set i 1) = 2 ^ (64 * i) := by
  rw [set_last, take1_snoc0, pow_W]

theorem Blk.top {w : World} {b i : Nat} {T : TypeId} (h : Blk w b .u64 T ((List.replicate (i + 1) 0).set i 1)) (hi : i ≤ 70) : Nm w (some ⟨b, 0, none⟩) (i + 1) (i + 1) (64 * i + 1) (2 ^ (64 * i)) := by
  refine ⟨⟨_, h.sl (i + 1) (by simp) (by omega), ?_, top_val i⟩, ⟨Nat.pow_lt_pow_right (by omega) (by omega)⟩, by omega, by omega⟩
  rw [set_last]
  exact (Dg.replicate (by omega) i).snoc (by omega)

theorem bitLen_two (k : Nat) : bitLen (2 ^ k) = k + 1 := by
  have h1 := (bitLen_le (2 ^ k) (k + 1)).2 (Nat.pow_lt_pow_right (by omega) (by omega))
  have h2 := (lt_bitLen (2 ^ k) k).2 (Nat.le_refl _)
  omega

/-- a slice and some bool are the results -/
def GivesSB (w : World) (e : Ending) (w' : World) : Prop := ∃ a n c b, e = .returned (.tuple #[.slice a n c, .bool b]) ∧ Below w.heap.size w w'

theorem inv_sb {w : World} {a1 a2 : Option Addr} {n1 c1 n2 c2 m k u v : Nat} (h : Nm w a1 n1 c1 m u) (h' : Nm w a2 n2 c2 k v) (hv : 2 ≤ v) (hm : mayB [u, v] = true) (hk : k ≤ 400000) : Calls Try.prog 44 #[.slice a1 n1 c1, .slice a2 n2 c2] w (GivesSB w) := by
  refine (inv_any h h' hv hm hk).mono fun e w' hg => ?_
  by_cases hn : (invL v v (u % v) 0 1).1 = 1
  · obtain ⟨a, n, c, rfl, _, hb⟩ := hg.1 hn
    exact ⟨a, n, c, true, rfl, hb⟩
  · obtain ⟨a, c, rfl, hb⟩ := hg.2 hn
    exact ⟨a, 0, c, false, rfl, hb⟩

theorem mbig_mid (n i : Nat) (w : World) (hn : n = i + 1) (h1 : 59 ≤ i) (h2 : i ≤ 63) : Calls Try.prog 11 #[.int .i64 (n : Int)] w (GivesBool w true) := by
  have t1 : decide ((n : Int) < 60) = false := decide_eq_false (by omega)
  have t2 : decide ((n : Int) > 70) = false := decide_eq_false (by omega)
  have t3 : decide ((n : Int) > 64) = false := decide_eq_false (by omega)
  have e3 : (n : Int) - 1 = (i : Int) := by omega
  have hi : (i : Int) < (n : Int) := by omega
  have hi0 : (0 : Int) ≤ (i : Int) := by omega
  have HN := mkHid hn
  clear hn
  have hT : Below w.heap.size w w := Below.refl _ _
  go_enter Try.func11, Try.ntmps11
  go_upto_region 5 with (first
    | (go_at_call 40; (with_reducible refine (begun2_any _).mono ?_); rintro e w' ⟨rfl, hb⟩; replace hT := hT.trans (hb.mono hT.size))
    | (at_make; refine wpList_mk rfl _ _ _ rfl 54 .u64 8 under_nat info_u64 n rfl rfl (by omega) (by omega) (by omega) (by omega) ?_; intro b w2 hB hblk hbel))
  have hwB : w.heap.size ≤ b := Nat.le_trans hT.size hB
  replace hT := hT.trans (hbel.mono hT.size)
  obtain ⟨z0, hcb, hfb, _⟩ := hblk.get i (by rw [List.length_replicate]; omega)
  go_upto_region 6 with (fail)
  have hT3 := hT.setCell (p := ⟨b, i, none⟩) hwB (.int .u64 1)
  have hA : Nm (w2.setCell ⟨b, i, none⟩ (.int .u64 1)) (some ⟨b, 0, none⟩) n n (64 * i + 1) (2 ^ (64 * i)) := by
    have := hblk.set i 1
    rw [HN.out] at this ⊢
    exact Blk.top this (by omega)
  generalize w2.setCell ⟨b, i, none⟩ (.int .u64 1) = w3 at *
  clear hcb hfb hblk hbel hb hT
  have hV : 2 ≤ 2 ^ (64 * i) := Nat.le_trans (by decide : 2 ≤ 2 ^ 1) (Nat.pow_le_pow_right (by omega) (by omega))
  have hbl := bitLen_two (64 * i)
  have hb3 : bitLen 3 = 2 := by decide
  have hm2 : mayB [2 ^ (64 * i), 3] = true := by simp [mayB, hbl, hb3]; omega
  have hm3 : mayB [3, 3, 2 ^ (64 * i)] = true := by simp [mayB, hbl, hb3]; omega
  have hmi : mayB [3, 2 ^ (64 * i)] = true := by simp [mayB, hbl, hb3]; omega
  generalize 2 ^ (64 * i) = V at *
  have HV := mkHid hV
  have HM2 := mkHid hm2
  have HM3 := mkHid hm3
  have HMI := mkHid hmi
  clear hV hm2 hm3 hmi hbl hb3
  go_upto_region 8 with (fail)
  have h3 := nm_one w3 3 2 (by omega) (by omega) (by omega)
  have hA4 := hA.keep (below_alloc (Obj.cells #[.int .u64 3] 54) (Nat.le_refl _))
  have hT4 := hT3.alloc hT3.size (Obj.cells #[.int .u64 3] 54)
  obtain ⟨b3, hb3⟩ : ∃ x, x = w3.heap.size := ⟨_, rfl⟩
  rw [← hb3] at h3 ⊢
  obtain ⟨w4, hw4⟩ : ∃ x, x = w3.alloc (Obj.cells #[.int .u64 3] 54) := ⟨_, rfl⟩
  replace h3 : Nm w4 (some ⟨b3, 0, none⟩) 1 1 2 3 := by rw [hw4]; exact h3
  rw [← hw4] at hA4 hT4 ⊢
  clear hw4 hb3 hA hT3
  go_wp2_with (first
    | (go_at_call 51; (with_reducible refine (mmod_yes hA4 h3 (by omega) HM2.out).mono ?_); rintro e w5 ⟨b5, m5, d5, rfl, _, hb⟩; replace h3 := h3.keep hb; replace hA4 := hA4.keep hb; replace hT4 := hT4.trans (hb.mono hT4.size))
    | (go_at_call 52; (with_reducible refine (exp_any h3 h3 hA4 (Nat.lt_of_lt_of_le (by omega) HV.out) HM3.out (by omega)).mono ?_); rintro e w6 ⟨b6, m6, d6, rfl, _, hb⟩; replace h3 := h3.keep hb; replace hA4 := hA4.keep hb; replace hT4 := hT4.trans (hb.mono hT4.size))
    | (go_at_call 44; (with_reducible refine (inv_sb h3 hA4 HV.out HMI.out (by omega)).mono ?_); rintro e w7 ⟨b7, m7, d7, t7, rfl, hb⟩; replace h3 := h3.keep hb; replace hA4 := hA4.keep hb; replace hT4 := hT4.trans (hb.mono hT4.size)))
  go_ret
  exact ⟨rfl, hT4⟩

theorem mbig_top (n i : Nat) (w : World) (hn : n = i + 1) (h1 : 64 ≤ i) (h2 : i ≤ 69) : Calls Try.prog 11 #[.int .i64 (n : Int)] w (GivesBool w true) := by
  have t1 : decide ((n : Int) < 60) = false := decide_eq_false (by omega)
  have t2 : decide ((n : Int) > 70) = false := decide_eq_false (by omega)
  have t3 : decide ((n : Int) > 64) = true := decide_eq_true (by omega)
  have e3 : (n : Int) - 1 = (i : Int) := by omega
  have hi : (i : Int) < (n : Int) := by omega
  have hi0 : (0 : Int) ≤ (i : Int) := by omega
  have HN := mkHid hn
  clear hn
  have hT : Below w.heap.size w w := Below.refl _ _
  go_enter Try.func11, Try.ntmps11
  go_upto_region 5 with (first
    | (go_at_call 40; (with_reducible refine (begun2_any _).mono ?_); rintro e w' ⟨rfl, hb⟩; replace hT := hT.trans (hb.mono hT.size))
    | (at_make; refine wpList_mk rfl _ _ _ rfl 54 .u64 8 under_nat info_u64 n rfl rfl (by omega) (by omega) (by omega) (by omega) ?_; intro b w2 hB hblk hbel))
  have hwB : w.heap.size ≤ b := Nat.le_trans hT.size hB
  replace hT := hT.trans (hbel.mono hT.size)
  obtain ⟨z0, hcb, hfb, _⟩ := hblk.get i (by rw [List.length_replicate]; omega)
  go_upto_region 6 with (fail)
  have hT3 := hT.setCell (p := ⟨b, i, none⟩) hwB (.int .u64 1)
  have hA : Nm (w2.setCell ⟨b, i, none⟩ (.int .u64 1)) (some ⟨b, 0, none⟩) n n (64 * i + 1) (2 ^ (64 * i)) := by
    have := hblk.set i 1
    rw [HN.out] at this ⊢
    exact Blk.top this (by omega)
  generalize w2.setCell ⟨b, i, none⟩ (.int .u64 1) = w3 at *
  clear hcb hfb hblk hbel hb hT
  have hV : 2 ≤ 2 ^ (64 * i) := Nat.le_trans (by decide : 2 ≤ 2 ^ 1) (Nat.pow_le_pow_right (by omega) (by omega))
  have hbl := bitLen_two (64 * i)
  have hb3 : bitLen 3 = 2 := by decide
  have hm2 : mayB [2 ^ (64 * i), 3] = false := by simp [mayB, hbl, hb3]; omega
  have hm3 : mayB [3, 3, 2 ^ (64 * i)] = false := by simp [mayB, hbl, hb3]; omega
  have hmi : mayB [3, 2 ^ (64 * i)] = false := by simp [mayB, hbl, hb3]; omega
  generalize 2 ^ (64 * i) = V at *
  have HV := mkHid hV
  have HM2 := mkHid hm2
  have HM3 := mkHid hm3
  have HMI := mkHid hmi
  clear hV hm2 hm3 hmi hbl hb3
  go_upto_region 8 with (fail)
  have h3 := nm_one w3 3 2 (by omega) (by omega) (by omega)
  have hA4 := hA.keep (below_alloc (Obj.cells #[.int .u64 3] 54) (Nat.le_refl _))
  have hT4 := hT3.alloc hT3.size (Obj.cells #[.int .u64 3] 54)
  obtain ⟨b3, hb3⟩ : ∃ x, x = w3.heap.size := ⟨_, rfl⟩
  rw [← hb3] at h3 ⊢
  obtain ⟨w4, hw4⟩ : ∃ x, x = w3.alloc (Obj.cells #[.int .u64 3] 54) := ⟨_, rfl⟩
  replace h3 : Nm w4 (some ⟨b3, 0, none⟩) 1 1 2 3 := by rw [hw4]; exact h3
  rw [← hw4] at hA4 hT4 ⊢
  clear hw4 hb3 hA hT3
  go_wp2_with (first
    | (go_at_call 51; (with_reducible refine (mmod_big hA4 h3 (by omega) HM2.out).mono ?_); rintro e w5 ⟨b5, d5, rfl, hb⟩; replace h3 := h3.keep hb; replace hA4 := hA4.keep hb; replace hT4 := hT4.trans (hb.mono hT4.size))
    | (go_at_call 52; (with_reducible refine (exp_big h3 h3 hA4 (Nat.lt_of_lt_of_le (by omega) HV.out) HM3.out).mono ?_); rintro e w6 ⟨b6, d6, rfl, hb⟩; replace h3 := h3.keep hb; replace hA4 := hA4.keep hb; replace hT4 := hT4.trans (hb.mono hT4.size))
    | (go_at_call 44; (with_reducible refine (inv_bigm h3 hA4 HV.out HMI.out).mono ?_); rintro e w7 ⟨b7, d7, rfl, hb⟩; replace h3 := h3.keep hb; replace hA4 := hA4.keep hb; replace hT4 := hT4.trans (hb.mono hT4.size)))
  go_ret
  exact ⟨rfl, hT4⟩

theorem mbig_law {w : World} (m : Int) (_ : -9223372036854775808 ≤ m ∧ m ≤ 9223372036854775807) : Calls Try.prog 11 #[.int .i64 m] w (GivesBool w true) := by
  by_cases h1 : m < 60
  · exact mbig_low m w h1
  · by_cases h2 : 70 < m
    · exact mbig_high m w h2
    · obtain ⟨n, rfl⟩ : ∃ n : Nat, m = (n : Int) := ⟨m.toNat, by omega⟩
      by_cases h3 : n ≤ 64
      · exact mbig_mid n (n - 1) w (by omega) (by omega) (by omega)
      · exact mbig_top n (n - 1) w (by omega) (by omega) (by omega)

end Go.Proofs.Ytaeamlldocbeeaa
