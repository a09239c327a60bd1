/- LimbRing: the walk: it answers true. -/
import Derived.Test.YtaeamlldocbeeaaNm
namespace Go.Proofs.Ytaeamlldocbeeaa
open Go.RowKit Num

theorem mul_own {w : World} {a1 a2 : Option Addr} {n1 c1 n2 c2 m k u v : Nat} (h : Nm w a1 n1 c1 m u) (h' : Nm w a2 n2 c2 k v) : Calls Try.prog 34 #[.slice a1 n1 c1, .slice a2 n2 c2] w fun e w' =>
    ∃ a n c, e = .returned (.slice a n c) ∧ Own .u64 54 w.heap.size w' a n c (dig 18446744073709551616 (u * v)) ∧ Below w.heap.size w w' := by
  obtain ⟨xs, h1, h2, h3⟩ := h.ex
  obtain ⟨ys, k1, k2, k3⟩ := h'.ex
  have := h.hn
  have := h'.hn
  refine (mul_any h1 k1 h2 k2 (by omega) (by omega)).mono fun _ _ hg => ?_
  rw [h3, k3] at hg
  exact hg

theorem Own.cn {w : World} {T B : Nat} {a : Option Addr} {n c m v : Nat} (h : Own .u64 T B w a n c (dig 18446744073709551616 v)) (hl : Lt2 m v) (hm : m ≤ 1000000) : Cn w a n c m v := ⟨h.sl, hl, hm⟩

theorem zeros_val (X : List Nat) (j : Nat) : val 18446744073709551616 (X ++ List.replicate j 0) = val 18446744073709551616 X := by
  rw [val_append, val_replicate, Nat.mul_zero, Nat.add_zero]

set_option maxHeartbeats 2000000 in
theorem ring_law {a1 a2 a3 : Option Addr} {n1 c1 n2 c2 n3 c3 : Nat} {xs ys zs : List Nat} {w : World} (h1 : Sl .u64 w a1 n1 c1 xs) (h2 : Sl .u64 w a2 n2 c2 ys) (h3 : Sl .u64 w a3 n3 c3 zs)
    (hd1 : Dg 18446744073709551616 xs) (hd2 : Dg 18446744073709551616 ys) (hd3 : Dg 18446744073709551616 zs) (k : Int) (_hk : -9223372036854775808 ≤ k ∧ k ≤ 9223372036854775807) :
    Calls Try.prog 6 #[.slice a1 n1 c1, .slice a2 n2 c2, .slice a3 n3 c3, .int .i64 k] w (GivesBool w true) := by
  have hT : Below w.heap.size w w := Below.refl _ _
  obtain ⟨X, eX⟩ : ∃ X, X = xs.take 20 := ⟨_, rfl⟩
  have dX : Dg 18446744073709551616 X := by rw [eX]; exact hd1.take 20
  have lX : Lt2 1280 (val 18446744073709551616 X) := by rw [eX]; exact Lt2.take hd1
  have nX : X.length ≤ 20 := by rw [eX, List.length_take]; omega
  have EX := mkHid eX
  clear eX
  obtain ⟨A, eA⟩ : ∃ A, A = val 18446744073709551616 X := ⟨_, rfl⟩
  obtain ⟨B, eB⟩ : ∃ B, val 18446744073709551616 (ys.take 20) = B := ⟨_, rfl⟩
  obtain ⟨C, eC⟩ : ∃ C, val 18446744073709551616 (zs.take 20) = C := ⟨_, rfl⟩
  rw [← eA] at lX
  have EA := mkHid eA
  clear eA
  have hring := mkHid (cmpI_iff0.2 (Nat.mul_add A B C))
  have hassoc := mkHid (cmpI_iff0.2 (Nat.mul_assoc A B C))
  go_enter Try.func6, Try.ntmps6
  go_upto_region 3 with (first
    | (go_at_call 13; (with_reducible refine (begun_any _).mono ?_); rintro e w' ⟨rfl, hb⟩; (try (replace h1 := h1.keep hb)); (try (replace h2 := h2.keep hb)); (try (replace h3 := h3.keep hb)); (try (replace sA := sA.keep hb)); (try (replace hB := hB.keep hb)); (try (replace hC := hC.keep hb)); replace hT := hT.trans (hb.mono hT.size))
    | (go_at_call 14; (with_reducible refine (few_any h1).mono ?_); rintro e w' ⟨a4, n4, c4, rfl, sA, hb⟩; (try (replace h1 := h1.keep hb)); (try (replace h2 := h2.keep hb)); (try (replace h3 := h3.keep hb)); (try (replace hB := hB.keep hb)); (try (replace hC := hC.keep hb)); replace hT := hT.trans (hb.mono hT.size); clear h1; replace sA := sA.sl)
    | (go_at_call 14; (with_reducible refine (few_nm h2 hd2).mono ?_); rintro e w' ⟨a5, n5, c5, rfl, hB, hb⟩; (try (replace h1 := h1.keep hb)); (try (replace h2 := h2.keep hb)); (try (replace h3 := h3.keep hb)); (try (replace sA := sA.keep hb)); (try (replace hC := hC.keep hb)); replace hT := hT.trans (hb.mono hT.size); clear h2; rw [eB] at hB)
    | (go_at_call 14; (with_reducible refine (few_nm h3 hd3).mono ?_); rintro e w' ⟨a6, n6, c6, rfl, hC, hb⟩; (try (replace h1 := h1.keep hb)); (try (replace h2 := h2.keep hb)); (try (replace h3 := h3.keep hb)); (try (replace sA := sA.keep hb)); (try (replace hB := hB.keep hb)); replace hT := hT.trans (hb.mono hT.size); clear h3; rw [eC] at hC))
  obtain ⟨wF, hwF⟩ : ∃ wF, wF = w' := ⟨_, rfl⟩
  subst hwF
  rw [← EX.out] at sA
  have hA : Nm wF a4 n4 c4 1280 A := ⟨⟨X, sA, dX, EA.out.symm⟩, lX, by omega, by rw [← sA.len]; omega⟩
  have hn4 : n4 ≤ 20 := by rw [← sA.len]; exact nX
  go_wp2_with (first
    | (at_builtin; refine wpList_app rfl (.const (.slice none 0 0)) (.tmp 25) 23 rfl 54 .u64 8 under_nat info_u64 wF.heap.size none 0 0 [] rfl (Own.nilOwn _ _ _ _) _ _ _ _ rfl sA (by omega) (by omega) (Nat.le_refl _) ?_; intro a7 c7 w7 hd hb7))
  rw [Nat.zero_add, List.nil_append] at hd
  go_loopw [10, 11] (fun dv iv wr => ∃ (j : Nat) (aD : Option Addr) (cD : Nat), j ≤ 4 ∧ iv = .int .i64 j ∧ dv = .slice aD (n4 + j) cD ∧ Own .u64 54 wF.heap.size wr aD (n4 + j) cD (X ++ List.replicate j 0) ∧ Below wF.heap.size wF wr)
    (fun _ iv _ => 4 - (intOf iv).toNat)
  case atStart => exact ⟨0, a7, c7, by omega, rfl, rfl, by simpa using hd, hb7⟩
  case round =>
    clear hd hb7
    obtain ⟨j, aD, cD, hj, rfl, rfl, hd, hb7⟩ := hrel
    by_cases hlt : (j : Int) < k ∧ j < 4
    · have t1 : decide ((j : Int) < k) = true := decide_eq_true hlt.1
      have t2 : decide (j < 4) = true := decide_eq_true hlt.2
      have hj4 := hlt.2
      clear hlt
      have hsz := hb7.size
      go_wp2_with (first
        | (at_builtin; refine wpList_app rfl (.tmp 36) (.tmp 37) 23 rfl 54 .u64 8 under_nat info_u64 wF.heap.size _ _ _ _ rfl (hd.keep (below_alloc _ (Nat.le_refl _))) _ _ _ [0] rfl ((Blk.new0 wr _).sl 1 rfl (by omega)) (by omega) (by omega) (by rw [World.size_alloc]; omega) ?_; intro a8 c8 w8 hd8 hb8))
      go_roundw
      case rel =>
        refine ⟨j + 1, a8, c8, by omega, by go_num, by go_num, ?_, hb7.trans ((below_alloc _ hsz).trans hb8)⟩
        rw [List.append_assoc, ← List.replicate_succ'] at hd8
        exact hd8
      case measure => simp [intOf]; omega
    · have hD : Nm wr aD (n4 + j) cD 1280 A :=
        ⟨⟨_, hd.sl, dX.append (Dg.replicate (by omega) _), by rw [zeros_val]; exact EA.out.symm⟩, lX, by omega, by omega⟩
      replace hA := hA.keep hb7
      replace hB := hB.keep hb7
      replace hC := hC.keep hb7
      replace hT := hT.trans (hb7.mono hT.size)
      have htest : (decide ((j : Int) < k) = true ∧ j = 4) ∨ decide ((j : Int) < k) = false := by
        by_cases g : (j : Int) < k
        · refine .inl ⟨decide_eq_true g, ?_⟩
          have : ¬ j < 4 := fun g2 => hlt ⟨g, g2⟩
          omega
        · exact .inr (decide_eq_false g)
      clear hd hlt hb7
      rcases htest with ⟨t1, rfl⟩ | t1
      · have t2 : decide ((4 : Int) < k) = true := t1
        clear t1
        go_wp2_with (first
          | (go_at_call 35; (with_reducible refine (add_nm hB hC (by omega)).mono ?_); rintro e w' ⟨a8, n8, c8, rfl, hS, hb⟩; (try (replace hA := hA.keep hb)); (try (replace hB := hB.keep hb)); (try (replace hC := hC.keep hb)); (try (replace hD := hD.keep hb)); (try (replace hP := hP.keep hb)); (try (replace hQ := hQ.keep hb)); (try (replace hY := hY.keep hb)); (try (replace hZ := hZ.keep hb)); (try (replace hX2 := hX2.keep hb)); replace hT := hT.trans (hb.mono hT.size); (try (replace hbX := hbX.trans (hb.mono hbX.size))); (try (replace hO := hO.keep hb)); (obtain ⟨wS, hwS⟩ : ∃ wS, wS = w' := ⟨_, rfl⟩; subst hwS))
          | (go_at_call 34; (with_reducible refine (mul_own hD hS.nm).mono ?_); have hA0 := hA; have hB0 := hB; have hC0 := hC; have hD0 := hD; have hT0 := hT; rintro e w' ⟨a9, n9, c9, rfl, hO, hb⟩; (try (replace hA := hA.keep hb)); (try (replace hB := hB.keep hb)); (try (replace hC := hC.keep hb)); (try (replace hD := hD.keep hb)); (try (replace hS := hS.keep hb)); (try (replace hP := hP.keep hb)); (try (replace hQ := hQ.keep hb)); (try (replace hY := hY.keep hb)); (try (replace hZ := hZ.keep hb)); have hbX := hb; replace hT := hT.trans (hb.mono hT.size); have hX2 := hO.cn (hD.lt.mul hS.lt) (by omega))
          | (go_at_call 34; (with_reducible refine (mul_nm hA hB (by omega)).mono ?_); rintro e w' ⟨a10, n10, c10, rfl, hP, hb⟩; (try (replace hA := hA.keep hb)); (try (replace hB := hB.keep hb)); (try (replace hC := hC.keep hb)); (try (replace hD := hD.keep hb)); (try (replace hS := hS.keep hb)); (try (replace hQ := hQ.keep hb)); (try (replace hY := hY.keep hb)); (try (replace hZ := hZ.keep hb)); (try (replace hX2 := hX2.keep hb)); replace hT := hT.trans (hb.mono hT.size); (try (replace hbX := hbX.trans (hb.mono hbX.size))); (try (replace hO := hO.keep hb)))
          | (go_at_call 34; (with_reducible refine (mul_nm hA hC (by omega)).mono ?_); rintro e w' ⟨a11, n11, c11, rfl, hQ, hb⟩; (try (replace hA := hA.keep hb)); (try (replace hB := hB.keep hb)); (try (replace hC := hC.keep hb)); (try (replace hD := hD.keep hb)); (try (replace hS := hS.keep hb)); (try (replace hP := hP.keep hb)); (try (replace hY := hY.keep hb)); (try (replace hZ := hZ.keep hb)); (try (replace hX2 := hX2.keep hb)); replace hT := hT.trans (hb.mono hT.size); (try (replace hbX := hbX.trans (hb.mono hbX.size))); (try (replace hO := hO.keep hb)))
          | (go_at_call 35; (with_reducible refine (add_nm hP.nm hQ.nm (by omega)).mono ?_); rintro e w' ⟨a12, n12, c12, rfl, hY, hb⟩; (try (replace hA := hA.keep hb)); (try (replace hB := hB.keep hb)); (try (replace hC := hC.keep hb)); (try (replace hD := hD.keep hb)); (try (replace hS := hS.keep hb)); (try (replace hP := hP.keep hb)); (try (replace hQ := hQ.keep hb)); (try (replace hZ := hZ.keep hb)); (try (replace hX2 := hX2.keep hb)); replace hT := hT.trans (hb.mono hT.size); (try (replace hbX := hbX.trans (hb.mono hbX.size))); (try (replace hO := hO.keep hb)))
          | (go_at_call 36; (with_reducible refine (cmp_nm hX2.nm hY.nm).mono ?_); rintro e w' ⟨rfl, hb⟩; (try (replace hA := hA.keep hb)); (try (replace hB := hB.keep hb)); (try (replace hC := hC.keep hb)); (try (replace hD := hD.keep hb)); (try (replace hS := hS.keep hb)); (try (replace hP := hP.keep hb)); (try (replace hQ := hQ.keep hb)); (try (replace hY := hY.keep hb)); (try (replace hZ := hZ.keep hb)); (try (replace hX2 := hX2.keep hb)); replace hT := hT.trans (hb.mono hT.size); (try (replace hbX := hbX.trans (hb.mono hbX.size))); (try (replace hO := hO.keep hb)); rw [hring.out]))
        clear hA hB hC hD hT hX2 hP hQ hY hS
        go_loopw [15] (fun iv wr => ∃ (i : Nat) (us : List Nat), i ≤ n9 ∧ iv = .int .i64 i ∧ Own .u64 54 wS.heap.size wr a9 n9 c9 us ∧ Below wS.heap.size wS wr) (fun iv _ => n9 - (intOf iv).toNat)
        case atStart => exact ⟨0, _, Nat.zero_le _, rfl, hO, hbX⟩
        case round =>
          clear hO hbX
          obtain ⟨i, us, hi, rfl, hO, hbw⟩ := hrel
          have hcap := hO.sl.cap
          have hle := hO.sl.le
          by_cases g : i < n9
          · have t3 : decide (i < n9) = true := decide_eq_true g
            obtain ⟨bx, ex, hBx, _, hfx⟩ := hO.addr (by omega)
            subst ex
            obtain ⟨u, hcu, _⟩ : ∃ u : Nat, wr.cell? ⟨bx, i, none⟩ = some (.int .u64 (u : Int)) ∧ True := ⟨_, by simpa using hO.sl.cell i (by rw [hO.len]; exact g), trivial⟩
            have hfi := hfx i
            clear hfx
            go_wp2
            go_roundw
            case rel => exact ⟨i + 1, us.set i 5, by omega, by go_num, hO.set i 5 g, hbw.setCell hBx _⟩
            case measure => simp [intOf]; omega
          · obtain rfl : i = n9 := by omega
            have hA := hA0.keep hbw
            have hB := hB0.keep hbw
            have hC := hC0.keep hbw
            have hD := hD0.keep hbw
            have hT := hT0.trans (hbw.mono hT0.size)
            clear hO hbw
            go_wp2_with (first
              | (go_at_call 34; (with_reducible refine (mul_nm hA hB (by omega)).mono ?_); rintro e w' ⟨a13, n13, c13, rfl, hP, hb⟩; (try (replace hA := hA.keep hb)); (try (replace hB := hB.keep hb)); (try (replace hC := hC.keep hb)); (try (replace hD := hD.keep hb)); (try (replace hS := hS.keep hb)); (try (replace hQ := hQ.keep hb)); (try (replace hY := hY.keep hb)); (try (replace hZ := hZ.keep hb)); (try (replace hX2 := hX2.keep hb)); replace hT := hT.trans (hb.mono hT.size); (try (replace hbX := hbX.trans (hb.mono hbX.size))); (try (replace hO := hO.keep hb)))
              | (go_at_call 34; (with_reducible refine (mul_nm hP.nm hC (by omega)).mono ?_); rintro e w' ⟨a14, n14, c14, rfl, hQ, hb⟩; (try (replace hA := hA.keep hb)); (try (replace hB := hB.keep hb)); (try (replace hC := hC.keep hb)); (try (replace hD := hD.keep hb)); (try (replace hS := hS.keep hb)); (try (replace hP := hP.keep hb)); (try (replace hY := hY.keep hb)); (try (replace hZ := hZ.keep hb)); (try (replace hX2 := hX2.keep hb)); replace hT := hT.trans (hb.mono hT.size); (try (replace hbX := hbX.trans (hb.mono hbX.size))); (try (replace hO := hO.keep hb)))
              | (go_at_call 34; (with_reducible refine (mul_nm hB hC (by omega)).mono ?_); rintro e w' ⟨a15, n15, c15, rfl, hY, hb⟩; (try (replace hA := hA.keep hb)); (try (replace hB := hB.keep hb)); (try (replace hC := hC.keep hb)); (try (replace hD := hD.keep hb)); (try (replace hS := hS.keep hb)); (try (replace hP := hP.keep hb)); (try (replace hQ := hQ.keep hb)); (try (replace hZ := hZ.keep hb)); (try (replace hX2 := hX2.keep hb)); replace hT := hT.trans (hb.mono hT.size); (try (replace hbX := hbX.trans (hb.mono hbX.size))); (try (replace hO := hO.keep hb)))
              | (go_at_call 34; (with_reducible refine (mul_nm hA hY.nm (by omega)).mono ?_); rintro e w' ⟨a16, n16, c16, rfl, hZ, hb⟩; (try (replace hA := hA.keep hb)); (try (replace hB := hB.keep hb)); (try (replace hC := hC.keep hb)); (try (replace hD := hD.keep hb)); (try (replace hS := hS.keep hb)); (try (replace hP := hP.keep hb)); (try (replace hQ := hQ.keep hb)); (try (replace hY := hY.keep hb)); (try (replace hX2 := hX2.keep hb)); replace hT := hT.trans (hb.mono hT.size); (try (replace hbX := hbX.trans (hb.mono hbX.size))); (try (replace hO := hO.keep hb)))
              | (go_at_call 36; (with_reducible refine (cmp_nm hQ.nm hZ.nm).mono ?_); rintro e w' ⟨rfl, hb⟩; (try (replace hA := hA.keep hb)); (try (replace hB := hB.keep hb)); (try (replace hC := hC.keep hb)); (try (replace hD := hD.keep hb)); (try (replace hS := hS.keep hb)); (try (replace hP := hP.keep hb)); (try (replace hQ := hQ.keep hb)); (try (replace hY := hY.keep hb)); (try (replace hZ := hZ.keep hb)); (try (replace hX2 := hX2.keep hb)); replace hT := hT.trans (hb.mono hT.size); (try (replace hbX := hbX.trans (hb.mono hbX.size))); (try (replace hO := hO.keep hb)); rw [hassoc.out])
              | (go_at_call 36; (with_reducible refine (cmp_nm hA hD).mono ?_); rintro e w' ⟨rfl, hb⟩; (try (replace hA := hA.keep hb)); (try (replace hB := hB.keep hb)); (try (replace hC := hC.keep hb)); (try (replace hD := hD.keep hb)); (try (replace hS := hS.keep hb)); (try (replace hP := hP.keep hb)); (try (replace hQ := hQ.keep hb)); (try (replace hY := hY.keep hb)); (try (replace hZ := hZ.keep hb)); (try (replace hX2 := hX2.keep hb)); replace hT := hT.trans (hb.mono hT.size); (try (replace hbX := hbX.trans (hb.mono hbX.size))); (try (replace hO := hO.keep hb)); rw [cmpI_self]))
            go_ret
            exact ⟨rfl, hT⟩
      · go_wp2_with (first
          | (go_at_call 35; (with_reducible refine (add_nm hB hC (by omega)).mono ?_); rintro e w' ⟨a8, n8, c8, rfl, hS, hb⟩; (try (replace hA := hA.keep hb)); (try (replace hB := hB.keep hb)); (try (replace hC := hC.keep hb)); (try (replace hD := hD.keep hb)); (try (replace hP := hP.keep hb)); (try (replace hQ := hQ.keep hb)); (try (replace hY := hY.keep hb)); (try (replace hZ := hZ.keep hb)); (try (replace hX2 := hX2.keep hb)); replace hT := hT.trans (hb.mono hT.size); (try (replace hbX := hbX.trans (hb.mono hbX.size))); (try (replace hO := hO.keep hb)); (obtain ⟨wS, hwS⟩ : ∃ wS, wS = w' := ⟨_, rfl⟩; subst hwS))
          | (go_at_call 34; (with_reducible refine (mul_own hD hS.nm).mono ?_); have hA0 := hA; have hB0 := hB; have hC0 := hC; have hD0 := hD; have hT0 := hT; rintro e w' ⟨a9, n9, c9, rfl, hO, hb⟩; (try (replace hA := hA.keep hb)); (try (replace hB := hB.keep hb)); (try (replace hC := hC.keep hb)); (try (replace hD := hD.keep hb)); (try (replace hS := hS.keep hb)); (try (replace hP := hP.keep hb)); (try (replace hQ := hQ.keep hb)); (try (replace hY := hY.keep hb)); (try (replace hZ := hZ.keep hb)); have hbX := hb; replace hT := hT.trans (hb.mono hT.size); have hX2 := hO.cn (hD.lt.mul hS.lt) (by omega))
          | (go_at_call 34; (with_reducible refine (mul_nm hA hB (by omega)).mono ?_); rintro e w' ⟨a10, n10, c10, rfl, hP, hb⟩; (try (replace hA := hA.keep hb)); (try (replace hB := hB.keep hb)); (try (replace hC := hC.keep hb)); (try (replace hD := hD.keep hb)); (try (replace hS := hS.keep hb)); (try (replace hQ := hQ.keep hb)); (try (replace hY := hY.keep hb)); (try (replace hZ := hZ.keep hb)); (try (replace hX2 := hX2.keep hb)); replace hT := hT.trans (hb.mono hT.size); (try (replace hbX := hbX.trans (hb.mono hbX.size))); (try (replace hO := hO.keep hb)))
          | (go_at_call 34; (with_reducible refine (mul_nm hA hC (by omega)).mono ?_); rintro e w' ⟨a11, n11, c11, rfl, hQ, hb⟩; (try (replace hA := hA.keep hb)); (try (replace hB := hB.keep hb)); (try (replace hC := hC.keep hb)); (try (replace hD := hD.keep hb)); (try (replace hS := hS.keep hb)); (try (replace hP := hP.keep hb)); (try (replace hY := hY.keep hb)); (try (replace hZ := hZ.keep hb)); (try (replace hX2 := hX2.keep hb)); replace hT := hT.trans (hb.mono hT.size); (try (replace hbX := hbX.trans (hb.mono hbX.size))); (try (replace hO := hO.keep hb)))
          | (go_at_call 35; (with_reducible refine (add_nm hP.nm hQ.nm (by omega)).mono ?_); rintro e w' ⟨a12, n12, c12, rfl, hY, hb⟩; (try (replace hA := hA.keep hb)); (try (replace hB := hB.keep hb)); (try (replace hC := hC.keep hb)); (try (replace hD := hD.keep hb)); (try (replace hS := hS.keep hb)); (try (replace hP := hP.keep hb)); (try (replace hQ := hQ.keep hb)); (try (replace hZ := hZ.keep hb)); (try (replace hX2 := hX2.keep hb)); replace hT := hT.trans (hb.mono hT.size); (try (replace hbX := hbX.trans (hb.mono hbX.size))); (try (replace hO := hO.keep hb)))
          | (go_at_call 36; (with_reducible refine (cmp_nm hX2.nm hY.nm).mono ?_); rintro e w' ⟨rfl, hb⟩; (try (replace hA := hA.keep hb)); (try (replace hB := hB.keep hb)); (try (replace hC := hC.keep hb)); (try (replace hD := hD.keep hb)); (try (replace hS := hS.keep hb)); (try (replace hP := hP.keep hb)); (try (replace hQ := hQ.keep hb)); (try (replace hY := hY.keep hb)); (try (replace hZ := hZ.keep hb)); (try (replace hX2 := hX2.keep hb)); replace hT := hT.trans (hb.mono hT.size); (try (replace hbX := hbX.trans (hb.mono hbX.size))); (try (replace hO := hO.keep hb)); rw [hring.out]))
        clear hA hB hC hD hT hX2 hP hQ hY hS
        go_loopw [15] (fun iv wr => ∃ (i : Nat) (us : List Nat), i ≤ n9 ∧ iv = .int .i64 i ∧ Own .u64 54 wS.heap.size wr a9 n9 c9 us ∧ Below wS.heap.size wS wr) (fun iv _ => n9 - (intOf iv).toNat)
        case atStart => exact ⟨0, _, Nat.zero_le _, rfl, hO, hbX⟩
        case round =>
          clear hO hbX
          obtain ⟨i, us, hi, rfl, hO, hbw⟩ := hrel
          have hcap := hO.sl.cap
          have hle := hO.sl.le
          by_cases g : i < n9
          · have t3 : decide (i < n9) = true := decide_eq_true g
            obtain ⟨bx, ex, hBx, _, hfx⟩ := hO.addr (by omega)
            subst ex
            obtain ⟨u, hcu, _⟩ : ∃ u : Nat, wr.cell? ⟨bx, i, none⟩ = some (.int .u64 (u : Int)) ∧ True := ⟨_, by simpa using hO.sl.cell i (by rw [hO.len]; exact g), trivial⟩
            have hfi := hfx i
            clear hfx
            go_wp2
            go_roundw
            case rel => exact ⟨i + 1, us.set i 5, by omega, by go_num, hO.set i 5 g, hbw.setCell hBx _⟩
            case measure => simp [intOf]; omega
          · obtain rfl : i = n9 := by omega
            have hA := hA0.keep hbw
            have hB := hB0.keep hbw
            have hC := hC0.keep hbw
            have hD := hD0.keep hbw
            have hT := hT0.trans (hbw.mono hT0.size)
            clear hO hbw
            go_wp2_with (first
              | (go_at_call 34; (with_reducible refine (mul_nm hA hB (by omega)).mono ?_); rintro e w' ⟨a13, n13, c13, rfl, hP, hb⟩; (try (replace hA := hA.keep hb)); (try (replace hB := hB.keep hb)); (try (replace hC := hC.keep hb)); (try (replace hD := hD.keep hb)); (try (replace hS := hS.keep hb)); (try (replace hQ := hQ.keep hb)); (try (replace hY := hY.keep hb)); (try (replace hZ := hZ.keep hb)); (try (replace hX2 := hX2.keep hb)); replace hT := hT.trans (hb.mono hT.size); (try (replace hbX := hbX.trans (hb.mono hbX.size))); (try (replace hO := hO.keep hb)))
              | (go_at_call 34; (with_reducible refine (mul_nm hP.nm hC (by omega)).mono ?_); rintro e w' ⟨a14, n14, c14, rfl, hQ, hb⟩; (try (replace hA := hA.keep hb)); (try (replace hB := hB.keep hb)); (try (replace hC := hC.keep hb)); (try (replace hD := hD.keep hb)); (try (replace hS := hS.keep hb)); (try (replace hP := hP.keep hb)); (try (replace hY := hY.keep hb)); (try (replace hZ := hZ.keep hb)); (try (replace hX2 := hX2.keep hb)); replace hT := hT.trans (hb.mono hT.size); (try (replace hbX := hbX.trans (hb.mono hbX.size))); (try (replace hO := hO.keep hb)))
              | (go_at_call 34; (with_reducible refine (mul_nm hB hC (by omega)).mono ?_); rintro e w' ⟨a15, n15, c15, rfl, hY, hb⟩; (try (replace hA := hA.keep hb)); (try (replace hB := hB.keep hb)); (try (replace hC := hC.keep hb)); (try (replace hD := hD.keep hb)); (try (replace hS := hS.keep hb)); (try (replace hP := hP.keep hb)); (try (replace hQ := hQ.keep hb)); (try (replace hZ := hZ.keep hb)); (try (replace hX2 := hX2.keep hb)); replace hT := hT.trans (hb.mono hT.size); (try (replace hbX := hbX.trans (hb.mono hbX.size))); (try (replace hO := hO.keep hb)))
              | (go_at_call 34; (with_reducible refine (mul_nm hA hY.nm (by omega)).mono ?_); rintro e w' ⟨a16, n16, c16, rfl, hZ, hb⟩; (try (replace hA := hA.keep hb)); (try (replace hB := hB.keep hb)); (try (replace hC := hC.keep hb)); (try (replace hD := hD.keep hb)); (try (replace hS := hS.keep hb)); (try (replace hP := hP.keep hb)); (try (replace hQ := hQ.keep hb)); (try (replace hY := hY.keep hb)); (try (replace hX2 := hX2.keep hb)); replace hT := hT.trans (hb.mono hT.size); (try (replace hbX := hbX.trans (hb.mono hbX.size))); (try (replace hO := hO.keep hb)))
              | (go_at_call 36; (with_reducible refine (cmp_nm hQ.nm hZ.nm).mono ?_); rintro e w' ⟨rfl, hb⟩; (try (replace hA := hA.keep hb)); (try (replace hB := hB.keep hb)); (try (replace hC := hC.keep hb)); (try (replace hD := hD.keep hb)); (try (replace hS := hS.keep hb)); (try (replace hP := hP.keep hb)); (try (replace hQ := hQ.keep hb)); (try (replace hY := hY.keep hb)); (try (replace hZ := hZ.keep hb)); (try (replace hX2 := hX2.keep hb)); replace hT := hT.trans (hb.mono hT.size); (try (replace hbX := hbX.trans (hb.mono hbX.size))); (try (replace hO := hO.keep hb)); rw [hassoc.out])
              | (go_at_call 36; (with_reducible refine (cmp_nm hA hD).mono ?_); rintro e w' ⟨rfl, hb⟩; (try (replace hA := hA.keep hb)); (try (replace hB := hB.keep hb)); (try (replace hC := hC.keep hb)); (try (replace hD := hD.keep hb)); (try (replace hS := hS.keep hb)); (try (replace hP := hP.keep hb)); (try (replace hQ := hQ.keep hb)); (try (replace hY := hY.keep hb)); (try (replace hZ := hZ.keep hb)); (try (replace hX2 := hX2.keep hb)); replace hT := hT.trans (hb.mono hT.size); (try (replace hbX := hbX.trans (hb.mono hbX.size))); (try (replace hO := hO.keep hb)); rw [cmpI_self]))
            go_ret
            exact ⟨rfl, hT⟩

end Go.Proofs.Ytaeamlldocbeeaa
