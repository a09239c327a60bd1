/- LimbShift: the walk: it answers true. -/
import Derived.Test.YtaeamlldocbeeaaNm2
import Derived.Deep.RegionHeld3
namespace Go.Proofs.Ytaeamlldocbeeaa
open Go.RowKit Go.Shelf Num

attribute [local go_sem] Oper.semAt_some

set_option maxRecDepth 100000 in
set_option maxHeartbeats 4000000 in
theorem shift_law {a1 : Option Addr} {n1 c1 : Nat} {xs : List Nat} {w : World} (h1 : Sl .u64 w a1 n1 c1 xs) (hd1 : Dg 18446744073709551616 xs) (m : Int) (i most : Int) (hi : i < 9223372036854775808) (hm : -9223372036854775808 ≤ m ∧ m ≤ 9223372036854775807) :
    Calls Try.prog 4 #[.slice a1 n1 c1, .int .i64 m, .int .i64 i, .int .i64 most] w (GivesBool w true) := by
  have hT : Below w.heap.size w w := Below.refl _ _
  obtain ⟨A, eA⟩ : ∃ A, val 18446744073709551616 (xs.take 20) = A := ⟨_, rfl⟩
  have qT : ∀ (w : World) (f : Fn) (ts lb : Array Value), (binOp .eql 40 (.func f ts lb) .nilFunc).run Try.prog w = .ok (.bool false) w := fun w f ts lb => run_eql_func_nil w 40 _ _ _ f ts lb under_seq
  refine (callsIn_wide (n := 4)).1 ?_
  refine callsIn_of_wp_marks Try.func4 rfl trivial ?_ rfl
  simp only [Try.ntmps4, List.size_toArray, List.length_cons, List.length_nil, Nat.reduceAdd, Nat.reduceSub, Array.replicate_succ, Array.replicate_zero, List.push_toArray, List.append_toArray, List.nil_append, List.cons_append]
  refine wpIn_wide.2 ?_
  go_upto_region 1 with (fail)
  have r7 := (newRow w 3 (.int .i64 most)).alloc (Obj.cells #[Value.bool false] 4)
  have r8 := newRow (w.alloc (Obj.cells #[.int .i64 most] 3)) 4 (.bool false)
  rw [World.size_alloc] at r8
  replace h1 := (h1.alloc (Obj.cells #[.int .i64 most] 3)).alloc (Obj.cells #[Value.bool false] 4)
  replace hT : Below w.heap.size w ((w.alloc (Obj.cells #[.int .i64 most] 3)).alloc (Obj.cells #[Value.bool false] 4)) :=
    (below_alloc _ (Nat.le_refl _)).alloc (by rw [World.size_alloc]; omega) _
  obtain ⟨w1, hw1⟩ : ∃ x, x = (w.alloc (Obj.cells #[.int .i64 most] 3)).alloc (Obj.cells #[Value.bool false] 4) := ⟨_, rfl⟩
  rw [← hw1] at r7 r8 h1 hT ⊢
  clear hw1
  obtain ⟨b7, hb7⟩ : ∃ b, b = w.heap.size := ⟨_, rfl⟩
  obtain ⟨b8, hb8⟩ : ∃ b, b = w.heap.size + 1 := ⟨_, rfl⟩
  rw [← hb8] at r8 ⊢
  rw [← hb7] at r7 ⊢
  have d78 : b7 < b8 := by omega
  have hb7B : w.heap.size ≤ b7 := by omega
  clear hb7 hb8
  go_upto_region 2 with (first
    | (go_at_call 13; (with_reducible refine (begun_any _).mono ?_); rintro e w' ⟨rfl, hb⟩; (try (replace h1 := h1.keep hb)); (try (replace hA := hA.keep hb)); (try (replace hX := hX.keep hb)); (try (replace hU := hU.keep hb)); (try (replace hD := hD.keep hb)); (try (replace hP := hP.keep hb)); (try (replace hQ := hQ.keep hb)); (try (replace hM := hM.keep hb)); (try (replace r7 := r7.keep hb)); (try (replace r8 := r8.keep hb)); (try (replace r9 := r9.keep hb)); (try (replace r10 := r10.keep hb)); (try (replace r15 := r15.keep hb)); (try (replace r17 := r17.keep hb)); replace hT := hT.trans (hb.mono hT.size)))
  have r9 := newRow w' 4 (.bool true)
  have d89 := r8.lt
  replace h1 := h1.alloc (Obj.cells #[.bool true] 4)
  replace r7 := r7.alloc (Obj.cells #[.bool true] 4)
  replace r8 := r8.alloc (Obj.cells #[.bool true] 4)
  replace hT := hT.alloc hT.size (Obj.cells #[.bool true] 4)
  obtain ⟨b9, hb9⟩ : ∃ b, b = w'.heap.size := ⟨_, rfl⟩
  rw [← hb9] at r9 d89 ⊢
  obtain ⟨W9, hW9⟩ : ∃ x, x = w'.alloc (Obj.cells #[.bool true] 4) := ⟨_, rfl⟩
  rw [← hW9] at r9 h1 r7 r8 hT ⊢
  clear hW9 hb9
  go_upto_region 4 with (first
    | (go_at_call 14; (with_reducible refine (few_nm h1 hd1).mono ?_); rintro e w' ⟨a4, n4, c4, rfl, hA, hb⟩; (try (replace h1 := h1.keep hb)); (try (replace hX := hX.keep hb)); (try (replace hU := hU.keep hb)); (try (replace hD := hD.keep hb)); (try (replace hP := hP.keep hb)); (try (replace hQ := hQ.keep hb)); (try (replace hM := hM.keep hb)); (try (replace r7 := r7.keep hb)); (try (replace r8 := r8.keep hb)); (try (replace r9 := r9.keep hb)); (try (replace r10 := r10.keep hb)); (try (replace r15 := r15.keep hb)); (try (replace r17 := r17.keep hb)); replace hT := hT.trans (hb.mono hT.size); clear h1; rw [eA] at hA)
    | (go_at_call 15; (with_reducible refine (from_nm hA).mono ?_); rintro e w' ⟨a5, n5, c5, rfl, hX, hb⟩; (try (replace h1 := h1.keep hb)); (try (replace hA := hA.keep hb)); (try (replace hU := hU.keep hb)); (try (replace hD := hD.keep hb)); (try (replace hP := hP.keep hb)); (try (replace hQ := hQ.keep hb)); (try (replace hM := hM.keep hb)); (try (replace r7 := r7.keep hb)); (try (replace r8 := r8.keep hb)); (try (replace r9 := r9.keep hb)); (try (replace r10 := r10.keep hb)); (try (replace r15 := r15.keep hb)); (try (replace r17 := r17.keep hb)); replace hT := hT.trans (hb.mono hT.size)))
  have r10 := newRow w' 26 (.slice a5 n5 c5)
  have d910 := r9.lt
  replace hA := hA.alloc (Obj.cells #[.slice a5 n5 c5] 26)
  replace hX := hX.alloc (Obj.cells #[.slice a5 n5 c5] 26)
  replace r7 := r7.alloc (Obj.cells #[.slice a5 n5 c5] 26)
  replace r8 := r8.alloc (Obj.cells #[.slice a5 n5 c5] 26)
  replace r9 := r9.alloc (Obj.cells #[.slice a5 n5 c5] 26)
  replace hT := hT.alloc hT.size (Obj.cells #[.slice a5 n5 c5] 26)
  obtain ⟨b10, hb10⟩ : ∃ b, b = w'.heap.size := ⟨_, rfl⟩
  rw [← hb10] at r10 d910 ⊢
  obtain ⟨W10, hW10⟩ : ∃ x, x = w'.alloc (Obj.cells #[.slice a5 n5 c5] 26) := ⟨_, rfl⟩
  rw [← hW10] at r10 hA hX r7 r8 r9 hT ⊢
  clear hW10 hb10
  go_upto_region 6 with (first
    | (go_at_call 21; (with_reducible refine (shl_any_nm hA m).mono ?_); rintro e w' ⟨a6, n6, c6, rfl, hU, hb⟩; (try (replace h1 := h1.keep hb)); (try (replace hA := hA.keep hb)); (try (replace hX := hX.keep hb)); (try (replace hD := hD.keep hb)); (try (replace hP := hP.keep hb)); (try (replace hQ := hQ.keep hb)); (try (replace hM := hM.keep hb)); (try (replace r7 := r7.keep hb)); (try (replace r8 := r8.keep hb)); (try (replace r9 := r9.keep hb)); (try (replace r10 := r10.keep hb)); (try (replace r15 := r15.keep hb)); (try (replace r17 := r17.keep hb)); replace hT := hT.trans (hb.mono hT.size))
    | (go_at_call 22; (with_reducible refine (shr_any_nm hA m (by omega)).mono ?_); rintro e w' ⟨a7, n7, c7, rfl, hD, hb⟩; (try (replace h1 := h1.keep hb)); (try (replace hA := hA.keep hb)); (try (replace hX := hX.keep hb)); (try (replace hU := hU.keep hb)); (try (replace hP := hP.keep hb)); (try (replace hQ := hQ.keep hb)); (try (replace hM := hM.keep hb)); (try (replace r7 := r7.keep hb)); (try (replace r8 := r8.keep hb)); (try (replace r9 := r9.keep hb)); (try (replace r10 := r10.keep hb)); (try (replace r15 := r15.keep hb)); (try (replace r17 := r17.keep hb)); replace hT := hT.trans (hb.mono hT.size)))
  obtain ⟨wP, hwP⟩ : ∃ x, x = w' := ⟨_, rfl⟩
  subst hwP
  go_cut [36] from 31 to 35 (fun tv wc => ∃ tb : Bool, tv = .bool tb ∧ (tb = true → 5000 < m ∧ m ≤ 65536) ∧ (tb = false → m ≤ 5000 ∨ 65536 < m) ∧ wP = wc)
  case first =>
    by_cases g1 : 5000 < m
    · have t1 : decide ((5000 : Int) < m) = true := decide_eq_true g1
      by_cases g2 : m ≤ 65536
      · have t2 : decide (m ≤ 65536) = true := decide_eq_true g2
        go_wp2
        go_meet
        case rel => exact ⟨true, rfl, (fun _ => ⟨g1, g2⟩), (fun h => by cases h), rfl⟩
      · have t2 : decide (m ≤ 65536) = false := decide_eq_false g2
        go_wp2
        go_meet
        case rel => exact ⟨false, rfl, (fun h => by cases h), (fun _ => by omega), rfl⟩
    · have t1 : decide ((5000 : Int) < m) = false := decide_eq_false g1
      go_wp2
      go_meet
      case rel => exact ⟨false, rfl, (fun h => by cases h), (fun _ => by omega), rfl⟩
  case rest =>
  obtain ⟨tb, rfl, htb1, htb2, hwe⟩ := hcut
  subst hwe
  have HTB1 := mkHid htb1
  have HTB2 := mkHid htb2
  clear htb1 htb2
  go_upto_if 36 with (fail)
  go_cut [1, 11, 12] from 37 to 44 (fun nv uv dv wc => ∃ (m' : Int), ∃ a n c a' n' c', nv = .int .i64 m' ∧ uv = .slice a n c ∧ dv = .slice a' n' c' ∧ UpOk wc a n c A m' ∧ DownOk wc a' n' c' A m' ∧ (m' ≤ 5000 ∨ 65536 < m') ∧ m' < 9223372036854775808 ∧ -9223372036854775808 ≤ m' ∧ Below wP.heap.size wP wc)
  case first =>
    have hTP : Below wP.heap.size wP wP := Below.refl _ _
    cases tb with
    | true =>
      obtain ⟨g1, g2⟩ := HTB1.out rfl
      obtain ⟨q, hq⟩ : ∃ q, q = m % 5001 := ⟨_, rfl⟩
      have hq1 : 0 ≤ q ∧ q ≤ 5000 := by omega
      have e1 : m % 5001 = q := hq.symm
      clear hq HTB1 HTB2
      go_wp2_with (first
    | (go_at_call 21; (with_reducible refine (shl_any_nm hA q).mono ?_); rintro e w' ⟨a8, n8, c8, rfl, hU2, hb⟩; (try (replace hA := hA.keep hb)); replace hTP := hTP.trans (hb.mono hTP.size))
    | (go_at_call 22; (with_reducible refine (shr_any_nm hA q (by omega)).mono ?_); rintro e w' ⟨a9, n9, c9, rfl, hD2, hb⟩; (try (replace hA := hA.keep hb)); (try (replace hU2 := hU2.keep hb)); replace hTP := hTP.trans (hb.mono hTP.size)))
      go_meet
      case rel => exact ⟨q, _, _, _, _, _, _, rfl, rfl, rfl, hU2, hD2, Or.inl (by omega), by omega, by omega, hTP⟩
    | false =>
      have g' := HTB2.out rfl
      clear HTB1 HTB2
      go_wp2
      go_meet
      case rel => exact ⟨m, _, _, _, _, _, _, rfl, rfl, rfl, hU, hD, g', by omega, by omega, hTP⟩
  case rest =>
    obtain ⟨m', a6', n6', c6', a7', n7', c7', rfl, rfl, rfl, hU, hD, hm', hm2, hm3, hb⟩ := hcut
    replace hA := hA.keep hb
    replace hX := hX.keep hb
    replace r7 := r7.keep hb
    replace r8 := r8.keep hb
    replace r9 := r9.keep hb
    replace r10 := r10.keep hb
    replace hT := hT.trans (hb.mono hT.size)
    go_upto_region 10 with (fail)
    obtain ⟨wQ, hwQ⟩ : ∃ x, x = wc := ⟨_, rfl⟩
    subst hwQ
    go_cut [50] from 45 to 49 (fun tv wc => ∃ tb : Bool, tv = .bool tb ∧ (tb = true → m' < 0 ∨ 65536 < m') ∧ (tb = false → 0 ≤ m' ∧ m' ≤ 65536) ∧ wQ = wc)
    case first =>
      by_cases g1 : m' < 0
      · have t1 : decide (m' < 0) = true := decide_eq_true g1
        go_wp2
        go_meet
        case rel => exact ⟨true, rfl, (fun _ => by omega), (fun h => by cases h), rfl⟩
      · have t1 : decide (m' < 0) = false := decide_eq_false g1
        by_cases g2 : 65536 < m'
        · have t2 : decide (65536 < m') = true := decide_eq_true g2
          go_wp2
          go_meet
          case rel => exact ⟨true, rfl, (fun _ => by omega), (fun h => by cases h), rfl⟩
        · have t2 : decide (65536 < m') = false := decide_eq_false g2
          go_wp2
          go_meet
          case rel => exact ⟨false, rfl, (fun h => by cases h), (fun _ => by omega), rfl⟩
    case rest =>
    obtain ⟨tc, rfl, htb1, htb2, hwe⟩ := hcut
    subst hwe
    have HTB1 := mkHid htb1
    have HTB2 := mkHid htb2
    clear htb1 htb2
    go_upto_if 50 with (fail)
    go_cut [13, 14] from 51 to 82 (fun _ _ wc => Below wQ.heap.size wQ wc)
    case first =>
      have hS : Below wQ.heap.size wQ wQ := Below.refl _ _
      cases tc with
      | true =>
        have g0 := HTB1.out rfl
        clear HTB1 HTB2
        by_cases g : m' < 0
        · have t1 : decide (m' < 0) = true := decide_eq_true g
          obtain rfl : n6' = 0 := hU.no (Or.inl g)
          obtain rfl : n7' = 0 := hD.no g
          go_wp2
          go_meet
          case rel => exact hS
        · have t1 : decide (m' < 0) = false := decide_eq_false g
          obtain rfl : n6' = 0 := hU.no (Or.inr (by omega))
          go_wp2
          go_meet
          case rel => exact hS
      | false =>
        have g0 := HTB2.out rfl
        clear HTB1 HTB2
        obtain ⟨j, rfl⟩ := Int.eq_ofNat_of_zero_le (show 0 ≤ m' by omega)
        have hj : j ≤ 5000 := by omega
        replace hU := hU.yes j rfl hj
        replace hD := hD.yes j rfl hj
        go_upto_region 13 with (fail)
        obtain ⟨wS, hwS⟩ : ∃ x, x = wQ := ⟨_, rfl⟩
        subst hwS
        have hc10 := r10.cell0
        go_cut [13, 14] from 63 to 69 (fun q r wc => ∃ a n c a' n' c', q = .slice a n c ∧ r = .slice a' n' c' ∧ Rf wc a n c 1280 (A / 2 ^ j) ∧ Below wS.heap.size wS wc)
        case first =>
          have hbd : Below wS.heap.size wS wS.drew := (Below.refl _ _).drew
          have hX0 := hX.keep hbd
          have r100 := r10.keep hbd
          refine wp_region_noPanic ?_
          go_region_with (first
            | (go_at_call 24; (with_reducible refine (rpower_nm j hj _).mono ?_); rintro e wq ⟨a8, n8, c8, rfl, hp, hbp⟩; have hc10' := (r100.keep hbp).cell0; have hX' := hX0.keep hbp)
            | (go_at_call 23; (with_reducible refine (rquo_nm hX' hp (Nat.two_pow_pos j)).mono ?_); rintro e wr ⟨a9, n9, c9, a10, n10, c10, rfl, hq, _, hbq⟩))
          all_goals (
            refine NoPanic.normal ?_
            go_wp2
            go_meet
            case rel => exact ⟨_, _, _, _, _, _, rfl, rfl, hq, hbd.trans ((hbp.trans (hbq.mono hbp.size)).mono hbd.size)⟩)
        case rest =>
          obtain ⟨a11, n11, c11, a12, n12, c12, rfl, rfl, hQ, hb⟩ := hcut
          replace hX := hX.keep hb
          replace hU := hU.keep hb
          replace hD := hD.keep hb
          replace r10 := r10.keep hb
          have hS := hb
          go_upto_region 14 with (fail)
          obtain ⟨wR, hwR⟩ : ∃ x, x = wc := ⟨_, rfl⟩
          subst hwR
          have hc10' := r10.cell0
          clear hc10
          go_cut [82] from 70 to 81 (fun t wc => t = .bool false ∧ Below wR.heap.size wR wc)
          case first =>
            have hbd : Below wR.heap.size wR wR.drew := (Below.refl _ _).drew
            have hX0 := hX.keep hbd
            have hU0 := hU.keep hbd
            have hD0 := hD.keep hbd
            have hQ0 := hQ.keep hbd
            have r100 := r10.keep hbd
            refine wp_region_noPanic ?_
            go_region_with (first
              | (go_at_call 24; (with_reducible refine (rpower_nm j hj _).mono ?_); rintro e wq ⟨a8, n8, c8, rfl, hp, hbp⟩; have hc10q := (r100.keep hbp).cell0; have hX1 := hX0.keep hbp)
              | (go_at_call 19; (with_reducible refine (rmul_nm hX1 hp (by omega)).mono ?_); rintro e wr ⟨a9, n9, c9, rfl, hm9, hbq⟩; have hU1 := (hU0.keep hbp).keep hbq)
              | (go_at_call 20; (with_reducible refine (is_nm hU1 hm9).mono ?_); rintro e ws ⟨rfl, hbs⟩; have hD1 := ((hD0.keep hbp).keep hbq).keep hbs; have hQ1 := ((hQ0.keep hbp).keep hbq).keep hbs)
              | (go_at_call 20; (with_reducible refine (is_nm hD1 hQ1).mono ?_); rintro e wt ⟨rfl, hbt⟩))
            all_goals (
              refine NoPanic.normal ?_
              go_wp2
              go_meet
              case rel => exact ⟨rfl, hbd.trans ((hbp.trans ((hbq.trans ((hbs.trans (hbt.mono hbs.size)).mono hbq.size)).mono hbp.size)).mono hbd.size)⟩)
          case rest =>
            obtain ⟨rfl, hb⟩ := hcut
            have hS2 := hS.trans (hb.mono hS.size)
            clear hX hU hD hQ hc10'
            go_wp2
            go_meet
            case rel => exact hS2
    case rest =>
      have hb := hcut
      replace hA := hA.keep hb
      replace hX := hX.keep hb
      replace r7 := r7.keep hb
      replace r8 := r8.keep hb
      replace r9 := r9.keep hb
      replace r10 := r10.keep hb
      replace hT := hT.trans (hb.mono hT.size)
      clear hU hD hcut
      have hc10w := r10.cell0
      obtain ⟨N, hN⟩ : ∃ N, N = bitLen A := ⟨_, rfl⟩
      have HN := mkHid hN
      clear hN
      go_upto_region 17 with (first
        | (go_at_call 25; (with_reducible refine (rbits_nm hX).mono ?_); rintro e w' ⟨rfl, hw'⟩; subst hw'; rw [← HN.out]))
      have r15 := newRow wc 3 (.int .i64 (N : Int))
      have d1015 := r10.lt
      replace hA := hA.alloc (Obj.cells #[.int .i64 (N : Int)] 3)
      replace hX := hX.alloc (Obj.cells #[.int .i64 (N : Int)] 3)
      replace r7 := r7.alloc (Obj.cells #[.int .i64 (N : Int)] 3)
      replace r8 := r8.alloc (Obj.cells #[.int .i64 (N : Int)] 3)
      replace r9 := r9.alloc (Obj.cells #[.int .i64 (N : Int)] 3)
      replace r10 := r10.alloc (Obj.cells #[.int .i64 (N : Int)] 3)
      replace hT := hT.alloc hT.size (Obj.cells #[.int .i64 (N : Int)] 3)
      obtain ⟨b15, hb15⟩ : ∃ b, b = wc.heap.size := ⟨_, rfl⟩
      rw [← hb15] at r15 d1015 ⊢
      obtain ⟨W15, hW15⟩ : ∃ x, x = wc.alloc (Obj.cells #[.int .i64 (N : Int)] 3) := ⟨_, rfl⟩
      rw [← hW15] at r15 hA hX r7 r8 r9 r10 hT ⊢
      clear hW15 hb15
      go_upto_region 21 with (first
        | (go_at_call 26; (with_reducible refine (each_nm hA).mono ?_); rintro e w' ⟨Bs, rfl, hbox, hb⟩; (try (replace h1 := h1.keep hb)); (try (replace hA := hA.keep hb)); (try (replace hX := hX.keep hb)); (try (replace hU := hU.keep hb)); (try (replace hD := hD.keep hb)); (try (replace hP := hP.keep hb)); (try (replace hQ := hQ.keep hb)); (try (replace hM := hM.keep hb)); (try (replace r7 := r7.keep hb)); (try (replace r8 := r8.keep hb)); (try (replace r9 := r9.keep hb)); (try (replace r10 := r10.keep hb)); (try (replace r15 := r15.keep hb)); (try (replace r17 := r17.keep hb)); replace hT := hT.trans (hb.mono hT.size); have hc15 := r15.cell0))
      obtain ⟨w0, hw0⟩ : ∃ x, x = w' := ⟨_, rfl⟩
      subst hw0
      have R7 := r7
      have R8 := r8
      have R9 := r9
      have R10 := r10
      have R15 := r15
      have XX := hX
      have AA := hA
      have TT := hT
      have BB := hbox
      have r17 := newRow w0 3 (.int .i64 (N : Int))
      have d1517 := r15.lt
      replace hA := hA.alloc (Obj.cells #[.int .i64 (N : Int)] 3)
      replace hX := hX.alloc (Obj.cells #[.int .i64 (N : Int)] 3)
      replace hbox := hbox.alloc (Obj.cells #[.int .i64 (N : Int)] 3)
      replace r7 := r7.alloc (Obj.cells #[.int .i64 (N : Int)] 3)
      replace r8 := r8.alloc (Obj.cells #[.int .i64 (N : Int)] 3)
      replace r9 := r9.alloc (Obj.cells #[.int .i64 (N : Int)] 3)
      replace r10 := r10.alloc (Obj.cells #[.int .i64 (N : Int)] 3)
      replace r15 := r15.alloc (Obj.cells #[.int .i64 (N : Int)] 3)
      replace hT := hT.alloc hT.size (Obj.cells #[.int .i64 (N : Int)] 3)
      obtain ⟨b17, hb17⟩ : ∃ b, b = w0.heap.size := ⟨_, rfl⟩
      rw [← hb17] at r17 d1517 ⊢
      obtain ⟨W17, hW17⟩ : ∃ x, x = w0.alloc (Obj.cells #[.int .i64 (N : Int)] 3) := ⟨_, rfl⟩
      rw [← hW17] at r17 hA hX hbox r7 r8 r9 r10 r15 hT ⊢
      have hB0 : Below w0.heap.size w0 W17 := by rw [hW17]; exact below_alloc _ (Nat.le_refl _)
      have hs0 : w0.heap.size < W17.heap.size := by rw [hW17, World.size_alloc]; omega
      have hs17 : w0.heap.size ≤ b17 := by omega
      have hwb : w.heap.size ≤ w0.heap.size := TT.size
      clear hW17 hb17
      go_wp2
      refine (wpIn_wide (n := 4)).1 ?_
      have hN63 : N < 9223372036854775808 := by
        have h5 := AA.lt.out
        have h6 := (bitLen_le A 1280).2 h5
        have h7 := HN.out
        omega
      have d8 : b8 < b17 := by omega
      refine wpIn_rangeFunc_ownF rfl (by omega) (gf := 71) (lb := #[.pointer (some ⟨Bs, 0, none⟩)]) rfl trivial (enters_of Try.func71 (by kernel_rfl) rfl)
        (each_stops Bs A w0 BB) belowK_t (belowK_b (Nat.le_of_lt hs0)) hB0 (fun _ => rfl)
        (fun pre W => (pre.length ≤ N ∧ W.cell? ⟨b17, 0, none⟩ = some (.int .i64 ((N : Int) - (pre.length : Int))) ∧ W.frozen? ⟨b17, 0, none⟩ = false) ∧ Below w0.heap.size w0 W)
        (fun c pre W => (c = .ret ∧ ((∃ j, j ≤ bitLen A ∧ pre = downTo (bitLen A) j) → W.cell? ⟨b8, 0, none⟩ = some (.bool true))) ∧ Below w.heap.size w W)
        (OwnFrom.and (Own.from (fun s A B row hs hg hr => ⟨hs.1, cell_kept hs.2.1 hg hr, (frozen_kept hs.2.1 hg hr).trans hs.2.2⟩) _) (ownFrom_below (Nat.le_refl _) (Nat.le_of_lt hs0)))
        (fun c => OwnFrom.and (Own.from (fun s A B row hs hg hr => ⟨hs.1, fun h => cell_kept (hs.2 h) hg hr⟩) _) (ownFrom_below (Nat.le_refl _) (Nat.le_trans hwb (Nat.le_of_lt hs0))))
        ⟨⟨Nat.zero_le _, by rw [r17.cell0]; simp, r17.frozen0⟩, hB0⟩ ?a1 ?assign ?body ?done ?stop
      case assign =>
        intro l x W K hK
        gi_wp2
        exact hK
      case body =>
        rintro l pre x W ⟨⟨hlen', hc17, hf17⟩, hB⟩ hlen
        rw [← HN.out] at hlen
        have c7 := (R7.keep hB).cell0
        have f8 := (R8.keep hB).frozen0
        have c8 := (R8.keep hB).cell0
        have c9 := (R9.keep hB).cell0
        have c10 := (R10.keep hB).cell0
        have c15 := (R15.keep hB).cell0
        have XW := XX.keep hB
        have hTW : Below w.heap.size w W := TT.trans (hB.mono hwb)
        have hB8 : w.heap.size ≤ b8 := by omega
        have hB17 : w.heap.size ≤ b17 := by omega
        have dne : b17 ≠ b8 := by omega
        obtain ⟨k, hk⟩ : ∃ k, k = N - 1 - pre.length := ⟨_, rfl⟩
        have hk1 : k + 1 + pre.length = N := by omega
        have e1 : (N : Int) - (pre.length : Int) - 1 = (k : Int) := by omega
        have hI : ∀ W' : World, W'.cell? ⟨b17, 0, none⟩ = some (.int .i64 (k : Int)) → W'.cell? ⟨b17, 0, none⟩ = some (.int .i64 ((N : Int) - ((pre ++ [x]).length : Int))) := by
          intro W' h
          rw [h, List.length_append, List.length_singleton]
          congr 2
          omega
        have hxk : (∃ j, j ≤ bitLen A ∧ pre ++ [x] = downTo (bitLen A) j) → x = k := by
          rintro ⟨j, _, e⟩
          have h1 := congrArg List.length e
          rw [List.length_append, List.length_singleton, downTo_length] at h1
          rw [← h1, downTo_succ, ← HN.out] at e
          have := (List.append_inj' e rfl).2
          have h3 := (List.cons.inj this).1
          omega
        have HXK := mkHid hxk
        have HI := mkHid hI
        have hc17s := World.cell?_setCell_same' W ⟨b17, 0, none⟩ (.int .i64 (k : Int)) (by rw [hc17]; rfl)
        obtain ⟨y, hy⟩ : ∃ y : Int, y = (N : Int) - (pre.length : Int) := ⟨_, rfl⟩
        rw [← hy] at hc17 e1
        have hywf : wrap64 (y - 1) = (k : Int) := by rw [IntWalk.wrap64_in _ (by omega)]; exact e1
        clear hI hxk hk hlen hlen' hy
        by_cases hx : x = k
        · subst hx
          have hBS := hB.setCell (p := ⟨b17, 0, none⟩) hs17 (.int .i64 (x : Int))
          have hbit := mkHid (rbit_nm (XX.keep hBS) (x : Int) (by omega))
          have hTS := TT.trans (hBS.mono hwb)
          have c8s0 := mkHid ((R8.keep hBS).cell0)
          by_cases hmost : (N : Int) - (x : Int) = most
          · have t6 : ((N : Int) - (x : Int) == most) = true := by simpa using hmost
            clear hmost
            gi_wp2_with (refine ⟨trivial, ?_⟩; gi_at_call 27; refine (callsIn_wide.2 hbit.out).mono ?_; rintro e w' ⟨rfl, rfl⟩)
            refine ⟨(KeepsOthers.setCell _ _ _).trans (KeepsOthers.setCell _ _ _), ⟨rfl, fun _ => ?_⟩, hTS.setCell (p := ⟨b8, 0, none⟩) hB8 _⟩
            exact World.cell?_setCell_same' _ _ _ (by rw [c8s0.out]; rfl)
          · have t6 : ((N : Int) - (x : Int) == most) = false := by simpa using hmost
            clear hmost
            gi_wp2_with (refine ⟨trivial, ?_⟩; gi_at_call 27; refine (callsIn_wide.2 hbit.out).mono ?_; rintro e w' ⟨rfl, rfl⟩)
            refine ⟨KeepsOthers.setCell _ _ _, (Below.refl w0.heap.size W).setCell (p := ⟨b17, 0, none⟩) hs17 _, ⟨by rw [List.length_append, List.length_singleton]; omega, HI.out _ hc17s, by rw [World.frozen?_setCell]; exact hf17⟩, hBS⟩
        · have t5 : ((x : Int) != (k : Int)) = true := bne_t hx
          have HX := mkHid hx
          clear hx
          gi_wp2
          refine ⟨trivial, ?_⟩
          gi_wp2
          refine ⟨(KeepsOthers.setCell _ _ _).trans (KeepsOthers.setCell _ _ _), ⟨rfl, fun h => absurd (HXK.out h) HX.out⟩, (hTW.setCell (p := ⟨b17, 0, none⟩) hB17 _).setCell (p := ⟨b8, 0, none⟩) hB8 _⟩
      case done =>
        rintro D ys W hD rfl ⟨⟨_, hc17, hf17⟩, hB⟩ hK
        rw [downTo_length, ← HN.out, Int.sub_self] at hc17
        have c7 := (R7.keep hB).cell0
        have f8 := (R8.keep hB).frozen0
        have c8 := (R8.keep hB).cell0
        have c9 := (R9.keep hB).cell0
        have c10 := (R10.keep hB).cell0
        have c15 := (R15.keep hB).cell0
        have hBd : Below w0.heap.size w0 W.drew := hB.drew
        have hAd := AA.keep hBd
        have hXd := XX.keep hBd
        have hKd : W.drew.heap[D]? = some (.deferred (some [])) := hK
        have hTd := TT.trans (hBd.mono hwb)
        have hB8 : w.heap.size ≤ b8 := by omega
        have hbits := bits_nm hAd
        rw [← HN.out] at hbits
        have HBITS := mkHid hbits
        have HBIT := mkHid (bit_nm hAd i hi)
        have HRBIT := mkHid (rbit_nm hXd i hi)
        obtain ⟨z, hz⟩ : ∃ z, z = bitAt A i := ⟨_, rfl⟩
        rw [← hz] at HBIT HRBIT
        clear hbits hz
        have hwD : w.heap.size ≤ D := by omega
        go_upto_region 29 with (fail)
        refine wp_region_noPanic ?_
        go_region_with (first
          | (go_at_call 28; (with_reducible refine HBITS.out.mono ?_); rintro e wx ⟨rfl, rfl⟩)
          | (go_at_call 29; (with_reducible refine HBIT.out.mono ?_); rintro e wx ⟨rfl, rfl⟩)
          | (go_at_call 27; (with_reducible refine HRBIT.out.mono ?_); rintro e wx ⟨rfl, rfl⟩))
        all_goals (
          refine NoPanic.normal ?_
          go_wp2
          have hK2 : ((W.setCell ⟨b8, 0, none⟩ (.bool true)).drew).heap[D]? = some (.deferred (some [])) := (KeepsOthers.setCell W ⟨b8, 0, none⟩ (.bool true)).same D _ hK rfl
          have hs2 : ((W.setCell ⟨b8, 0, none⟩ (.bool true)).drew).cell? ⟨b8, 0, none⟩ = some (.bool true) := World.cell?_setCell_same' W _ _ (by rw [c8]; rfl)
          refine ⟨by simp, .inl ⟨_, _, rfl, run_takeDeferred hK2, ?_⟩⟩
          have hc5 := cell_kept hs2 (grownBy_putObj' _ D (.deferred none)) (fun r e => by cases e; exact ⟨_, hK2, rfl⟩)
          refine ⟨.bool true, ?_, rfl, ((TT.trans (hB.mono hwb)).setCell (p := ⟨b8, 0, none⟩) hB8 _).drew.trans (belowK_b (w := w) (Nat.le_refl _) _ D _ _ hwD hK2 rfl rfl)⟩
          simp [results, Try.f4, go_sem, hc5])
      case stop =>
        rintro D c pre W hD hSp ⟨⟨rfl, himp⟩, hB⟩ hK
        have hc8 := himp hSp
        gi_wp2
        refine ⟨by simp, .inl ⟨_, _, rfl, run_takeDeferred hK, ?_⟩⟩
        have hc5 := cell_kept hc8 (grownBy_putObj' _ D (.deferred none)) (fun r e => by cases e; exact ⟨_, hK, rfl⟩)
        refine ⟨.bool true, ?_, rfl, hB.trans (belowK_b (w := w) (Nat.le_refl _) W D _ _ (by omega) hK rfl rfl)⟩
        simp [results, Try.f4, go_sem, hc5]


end Go.Proofs.Ytaeamlldocbeeaa
