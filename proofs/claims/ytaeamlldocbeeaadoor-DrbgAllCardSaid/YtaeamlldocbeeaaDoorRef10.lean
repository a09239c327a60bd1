/- baileyref1: less. -/
import Derived.Test.YtaeamlldocbeeaaDoorRefD
namespace Go.Proofs.YtaeamlldocbeeaaDoor
open Go.RowKit Num

theorem size_u64 : (Tryd.prog.info? 47).map (·.size) = some 1 := by kernel_rfl

theorem set_mid (zs ws : List Nat) (i s : Nat) (hz : zs.length = i) (hi : i < ws.length) : (zs ++ ws.drop i).set i s = (zs ++ [s]) ++ ws.drop (i + 1) := by
  rw [List.set_append_right _ _ (by omega), hz, Nat.sub_self, List.drop_eq_getElem_cons hi, List.set_cons_zero, List.append_assoc]
  rfl

theorem less_step (B Z S Y P x y g c lo hi s bo b2 : Nat) (hv : Z + g * Y = S + P * (bo + c)) (h1 : c + g * y = lo + B * hi) (h2 : s + lo + bo = x + B * b2) :
    Z + P * s + g * (Y + P * y) = S + P * x + P * B * (b2 + hi) := by
  have e1 : P * (c + g * y) = P * (lo + B * hi) := by rw [h1]
  have e2 : P * (s + lo + bo) = P * (x + B * b2) := by rw [h2]
  simp only [Nat.mul_add] at *
  rw [Nat.mul_left_comm g P y, Nat.mul_assoc P B b2, Nat.mul_assoc P B hi]
  omega

/-- what 'less' leaves: whether the multiple went off, and what is left -/
def LessPost (w : World) (bu bv bw k n : Nat) (us vs : List Nat) (g : Nat) (e : Ending) (w' : World) : Prop :=
  ∃ zs, e = .returned (.bool (decide (g * val 4294967296 (vs.take n) ≤ val 4294967296 (seg us k (n + 1))))) ∧ zs.length = n + 1 ∧ Dg 4294967296 zs ∧
    (g * val 4294967296 (vs.take n) ≤ val 4294967296 (seg us k (n + 1)) → g * val 4294967296 (vs.take n) + val 4294967296 zs = val 4294967296 (seg us k (n + 1))) ∧
    Blk w' bu .u64 47 (if g * val 4294967296 (vs.take n) ≤ val 4294967296 (seg us k (n + 1)) then us.take k ++ (zs ++ us.drop (k + (n + 1))) else us) ∧
    Blk w' bv .u64 47 vs ∧ Blk w' bw .u64 47 zs ∧ Only2 w w' bu bw

set_option maxRecDepth 20000 in
set_option maxHeartbeats 2000000 in
theorem rless_any {bu bv bw N n k g : Nat} {us vs ws : List Nat} {w : World} (hbu : Blk w bu .u64 47 us) (hbv : Blk w bv .u64 47 vs) (hbw : Blk w bw .u64 47 ws)
    (hN : us.length = N) (hn : n ≤ vs.length) (hw : ws.length = n + 1) (hk : k + n + 1 ≤ N) (hN1 : N ≤ 1099511627776) (hg : g < 4294967296)
    (dus : Dg 4294967296 us) (dvs : Dg 4294967296 vs) (huw : bu ≠ bw) (hvu : bv ≠ bu) (hvw : bv ≠ bw) :
    Calls Tryd.prog 64 #[.slice (some ⟨bu, 0, none⟩) N N, .slice (some ⟨bv, 0, none⟩) n n, .slice (some ⟨bw, 0, none⟩) (n + 1) (n + 1), .int .i64 (k : Int), .int .u64 (g : Int)] w
      (LessPost w bu bv bw k n us vs g) := by
  have ho : Only2 w w bu bw := Only2.refl _ _ _
  go_enter Tryd.func64, Tryd.ntmps64
  go_wp2
  go_loopw [12, 13, 14] (fun cv bov iv wr => ∃ (i c bo : Nat) (zs : List Nat), i ≤ n + 1 ∧ c < 4294967296 ∧ bo ≤ 1 ∧ cv = .int .u64 c ∧ bov = .int .u64 bo ∧ iv = .int .i64 i ∧ Hid (zs.length = i) ∧ Dg 4294967296 zs ∧
      (i = n + 1 → c = 0) ∧ Hid (val 4294967296 zs + g * val 4294967296 ((vs.take n).take i) = val 4294967296 (seg us k i) + 4294967296 ^ i * (bo + c)) ∧
      Blk wr bu .u64 47 us ∧ Blk wr bw .u64 47 (zs ++ ws.drop i) ∧ Blk wr bv .u64 47 vs ∧ Only2 w wr bu bw) (fun _ _ iv _ => n + 1 - (intOf iv).toNat)
  case atStart =>
    refine ⟨0, 0, 0, [], Nat.zero_le _, by omega, by omega, rfl, rfl, rfl, rfl, Dg.nil, fun _ => rfl, ?_, hbu, hbw, hbv, ho⟩
    show _ = _
    simp [val, seg]
  case round =>
    clear hbu hbw hbv ho
    obtain ⟨i, c, bo, zs, hi, hc, hbo, rfl, rfl, rfl, hz, dz, hc0, hv, hbu, hbw, hbv, ho⟩ := hrel
    by_cases hle : i ≤ n
    · have t1 : decide (i ≤ n) = true := decide_eq_true hle
      clear hc0
      obtain ⟨x, hcx, _, hx⟩ := hbu.get (k + i) (by omega)
      have hxV : x < 4294967296 := by obtain ⟨h, e⟩ := hx.out; rw [← e]; exact dus.at _ h
      obtain ⟨z0, hcb, hfb, _⟩ := hbw.get i (by rw [List.length_append, hz.out, List.length_drop]; omega)
      by_cases hin : i < n
      · have t2 : decide (i < n) = true := decide_eq_true hin
        obtain ⟨y, hcy, _, hy⟩ := hbv.get i (by omega)
        have hyV : y < 4294967296 := by obtain ⟨h, e⟩ := hy.out; rw [← e]; exact dvs.at _ h
        obtain ⟨p, hp⟩ : ∃ p, p = y * g := ⟨_, rfl⟩
        obtain ⟨cc, hcc⟩ : ∃ cc, cc = c + p := ⟨_, rfl⟩
        obtain ⟨lo, hlo⟩ : ∃ lo, lo = cc % 4294967296 := ⟨_, rfl⟩
        obtain ⟨hi, hhi⟩ : ∃ hi, hi = cc / 4294967296 := ⟨_, rfl⟩
        obtain ⟨q1, q2, q3, _⟩ := rmul_place 4294967296 y g 0 c hyV hg (by omega) hc cc lo hi (by omega) hlo hhi
        have hsW : cc < 18446744073709551616 := q1
        have f1 := u64_mul_in y g (by omega) p hp
        have f2 : IntKind.u64.wrap ((c : Int) + (p : Int)) = (cc : Int) := u64_in c p (by omega) cc hcc
        have f4 : (cc : Int) % 4294967296 = (lo : Int) := by omega
        have f5 : (cc : Int) / 4294967296 = (hi : Int) := by omega
        by_cases hls : x < lo + bo
        · have t3 : decide ((x : Int) < (lo : Int) + (bo : Int)) = true := decide_eq_true (by omega)
          obtain ⟨s, hs⟩ : ∃ s, s = x + 4294967296 - (lo + bo) := ⟨_, rfl⟩
          have e1 : ((x : Int) + 4294967296) - ((lo : Int) + (bo : Int)) = (s : Int) := by omega
          have hsV : s < 4294967296 := by omega
          have st := mkHid (less_step 4294967296 _ _ _ _ x y g c lo hi s bo 1 hv.out (by rw [Nat.mul_comm g, ← hp]; have := Nat.mod_add_div cc 4294967296; omega) (by omega))
          clear hs hcc hlo hhi hp q1
          go_wp2
          go_roundw
          case rel =>
            refine ⟨i + 1, hi, 1, zs ++ [s], by omega, q3, by omega, rfl, rfl, by go_num, ?_, dz.snoc hsV, ?_, ?_, hbu.other (by exact huw.symm) _, ?_, hbv.only2 (Only2.set2 _ bu bw _ _) hvu hvw, ho.trans (Only2.set2 _ bu bw _ _)⟩
            · show _ = _
              rw [List.length_append, hz.out]; rfl
            · intro h; omega
            · show _ = _
              obtain ⟨h, e⟩ := hx.out
              obtain ⟨h2, e2⟩ := hy.out
              have hY : i < (vs.take n).length := by rw [List.length_take]; omega
              rw [val_snoc, hz.out, val_take_succ _ _ _ hY, List.getElem_take, e2, seg_succ us k i h, val_snoc, seg_length us k i (by omega), e, Nat.pow_succ]
              exact st.out
            · have := hbw.set i s
              rw [set_mid zs ws i s hz.out (by omega)] at this
              exact this
          case measure => simp [intOf]; omega
        · have t3 : decide ((x : Int) < (lo : Int) + (bo : Int)) = false := decide_eq_false (by omega)
          obtain ⟨s, hs⟩ : ∃ s, s = x - (lo + bo) := ⟨_, rfl⟩
          have e1 : (x : Int) - ((lo : Int) + (bo : Int)) = (s : Int) := by omega
          have hsV : s < 4294967296 := by omega
          have st := mkHid (less_step 4294967296 _ _ _ _ x y g c lo hi s bo 0 hv.out (by rw [Nat.mul_comm g, ← hp]; have := Nat.mod_add_div cc 4294967296; omega) (by omega))
          clear hs hcc hlo hhi hp q1
          go_wp2
          go_roundw
          case rel =>
            refine ⟨i + 1, hi, 0, zs ++ [s], by omega, q3, by omega, rfl, rfl, by go_num, ?_, dz.snoc hsV, ?_, ?_, hbu.other (by exact huw.symm) _, ?_, hbv.only2 (Only2.set2 _ bu bw _ _) hvu hvw, ho.trans (Only2.set2 _ bu bw _ _)⟩
            · show _ = _
              rw [List.length_append, hz.out]; rfl
            · intro h; omega
            · show _ = _
              obtain ⟨h, e⟩ := hx.out
              obtain ⟨h2, e2⟩ := hy.out
              have hY : i < (vs.take n).length := by rw [List.length_take]; omega
              rw [val_snoc, hz.out, val_take_succ _ _ _ hY, List.getElem_take, e2, seg_succ us k i h, val_snoc, seg_length us k i (by omega), e, Nat.pow_succ]
              exact st.out
            · have := hbw.set i s
              rw [set_mid zs ws i s hz.out (by omega)] at this
              exact this
          case measure => simp [intOf]; omega
      · have t2 : decide (i < n) = false := decide_eq_false hin
        obtain ⟨cc, hcc⟩ : ∃ cc, cc = c := ⟨_, rfl⟩
        obtain ⟨lo, hlo⟩ : ∃ lo, lo = cc % 4294967296 := ⟨_, rfl⟩
        obtain ⟨hi, hhi⟩ : ∃ hi, hi = cc / 4294967296 := ⟨_, rfl⟩
        have q2 : lo < 4294967296 := by omega
        have q3 : hi < 4294967296 := by omega
        have hi0 : hi = 0 := by omega
        have f4 : (c : Int) % 4294967296 = (lo : Int) := by omega
        have f5 : (c : Int) / 4294967296 = (hi : Int) := by omega
        by_cases hls : x < lo + bo
        · have t3 : decide ((x : Int) < (lo : Int) + (bo : Int)) = true := decide_eq_true (by omega)
          obtain ⟨s, hs⟩ : ∃ s, s = x + 4294967296 - (lo + bo) := ⟨_, rfl⟩
          have e1 : ((x : Int) + 4294967296) - ((lo : Int) + (bo : Int)) = (s : Int) := by omega
          have hsV : s < 4294967296 := by omega
          have st := mkHid (less_step 4294967296 _ _ _ _ x 0 g c lo hi s bo 1 hv.out (by have := Nat.mod_add_div cc 4294967296; omega) (by omega))
          have HI0 := mkHid hi0
          clear hs hcc hlo hhi hi0
          go_wp2
          go_roundw
          case rel =>
            refine ⟨i + 1, hi, 1, zs ++ [s], by omega, q3, by omega, by first | rfl | rw [f5], rfl, by go_num, ?_, dz.snoc hsV, ?_, ?_, hbu.other (by exact huw.symm) _, ?_, hbv.only2 (Only2.set2 _ bu bw _ _) hvu hvw, ho.trans (Only2.set2 _ bu bw _ _)⟩
            · show _ = _
              rw [List.length_append, hz.out]; rfl
            · intro _; exact HI0.out
            · show _ = _
              obtain ⟨h, e⟩ := hx.out
              rw [val_snoc, hz.out, List.take_of_length_le (i := i + 1) (by rw [List.length_take]; omega), seg_succ us k i h, val_snoc, seg_length us k i (by omega), e, Nat.pow_succ]
              have := st.out
              rw [List.take_of_length_le (i := i) (by rw [List.length_take]; omega), Nat.mul_zero, Nat.add_zero] at this
              exact this
            · have := hbw.set i s
              rw [set_mid zs ws i s hz.out (by omega)] at this
              exact this
          case measure => simp [intOf]; omega
        · have t3 : decide ((x : Int) < (lo : Int) + (bo : Int)) = false := decide_eq_false (by omega)
          obtain ⟨s, hs⟩ : ∃ s, s = x - (lo + bo) := ⟨_, rfl⟩
          have e1 : (x : Int) - ((lo : Int) + (bo : Int)) = (s : Int) := by omega
          have hsV : s < 4294967296 := by omega
          have st := mkHid (less_step 4294967296 _ _ _ _ x 0 g c lo hi s bo 0 hv.out (by have := Nat.mod_add_div cc 4294967296; omega) (by omega))
          have HI0 := mkHid hi0
          clear hs hcc hlo hhi hi0
          go_wp2
          go_roundw
          case rel =>
            refine ⟨i + 1, hi, 0, zs ++ [s], by omega, q3, by omega, by first | rfl | rw [f5], rfl, by go_num, ?_, dz.snoc hsV, ?_, ?_, hbu.other (by exact huw.symm) _, ?_, hbv.only2 (Only2.set2 _ bu bw _ _) hvu hvw, ho.trans (Only2.set2 _ bu bw _ _)⟩
            · show _ = _
              rw [List.length_append, hz.out]; rfl
            · intro _; exact HI0.out
            · show _ = _
              obtain ⟨h, e⟩ := hx.out
              rw [val_snoc, hz.out, List.take_of_length_le (i := i + 1) (by rw [List.length_take]; omega), seg_succ us k i h, val_snoc, seg_length us k i (by omega), e, Nat.pow_succ]
              have := st.out
              rw [List.take_of_length_le (i := i) (by rw [List.length_take]; omega), Nat.mul_zero, Nat.add_zero] at this
              exact this
            · have := hbw.set i s
              rw [set_mid zs ws i s hz.out (by omega)] at this
              exact this
          case measure => simp [intOf]; omega
    · obtain rfl : i = n + 1 := by omega
      have t1 : decide (n + 1 ≤ n) = false := decide_eq_false hle
      obtain rfl : c = 0 := hc0 rfl
      clear hc0 hc
      have hv2 := hv.out
      clear hv
      rw [List.take_of_length_le (i := n + 1) (by rw [List.length_take]; omega), Nat.add_zero] at hv2
      have hzl := val_lt dz
      rw [hz.out] at hzl
      rw [List.drop_of_length_le (by omega), List.append_nil] at hbw
      rcases Nat.lt_or_ge 0 bo with hb | hb
      · obtain rfl : bo = 1 := by omega
        rw [Nat.mul_one] at hv2
        have hno : Hid (¬ g * val 4294967296 (vs.take n) ≤ val 4294967296 (seg us k (n + 1))) := by show ¬ _; omega
        clear hv2 hzl
        go_wp2
        go_ret
        exact ⟨zs, by rw [decide_eq_false hno.out]; rfl, hz.out, dz, fun h => absurd h hno.out, by rw [if_neg hno.out]; exact hbu, hbv, hbw, ho⟩
      · obtain rfl : bo = 0 := by omega
        rw [Nat.mul_zero, Nat.add_zero] at hv2
        have hyes : Hid (g * val 4294967296 (vs.take n) ≤ val 4294967296 (seg us k (n + 1)) ∧ g * val 4294967296 (vs.take n) + val 4294967296 zs = val 4294967296 (seg us k (n + 1))) := by show _ ∧ _; omega
        clear hv2 hzl
        have hs : ¬ N = k := by omega
        have hkN : k ≤ N := by omega
        obtain ⟨w5, hcp, hbu5, ho5⟩ := run_cp (P := Tryd.prog) 38 38 3 47 under_ref size_u64 bu k (N - k) (N - k) _ (n + 1) (n + 1) .u64 us zs hbu (hbw.sl (n + 1) hz.out (by omega)) (by omega) (by omega) (by omega)
        have HO5 := mkHid ho5
        clear ho5
        simp only [goInt] at hcp
        go_wp2
        go_ret
        exact ⟨zs, by rw [decide_eq_true hyes.out.1]; rfl, hz.out, dz, fun _ => hyes.out.2, by rw [if_pos hyes.out.1]; exact hbu5, hbv.only2 (HO5.out bw) hvu hvw, hbw.only2 (HO5.out bv) huw.symm hvw.symm, ho.trans (HO5.out bw)⟩

end Go.Proofs.YtaeamlldocbeeaaDoor
