/- modarith: Exp. -/
import Derived.Test.YtaeamlldocbeeaaMod7
import Derived.Deep.RegionHeld3
import Derived.Stop.RegionWithIn
namespace Go.Proofs.Ytaeamlldocbeeaa
open Go.RowKit Go.Shelf Num

attribute [local go_sem] Oper.semAt_some

theorem Cn.kept {W W' : World} {a : Option Addr} {n c m v : Nat} {row : Option Nat} (h : Cn W a n c m v) (hg : W.grownBy W' row)
    (hr : ∀ r, row = some r → ∃ o : Obj, W.heap[r]? = some o ∧ o.isCells = false) : Cn W' a n c m v := ⟨h.sl.kept hg hr, h.lt, h.hm⟩

theorem Cn.grownBox {W W' : World} {a : Option Addr} {n c b m u : Nat} {T : TypeId} {v : Value} (h : Cn W a n c m u) (hr : Row W b T [v]) (hv : ∀ x : Int, v ≠ .int .u64 x) (hg : W.grownBy W' (some b)) : Cn W' a n c m u :=
  ⟨h.sl.grownBox hr hv hg, h.lt, h.hm⟩

section
variable {w : World} {a1 a2 a3 : Option Addr} {n1 c1 n2 c2 n3 c3 m k l u v x : Nat}

theorem exp_zero (h'' : Nm w a3 n3 c3 l 0) : Calls Try.prog 52 #[.slice a1 n1 c1, .slice a2 n2 c2, .slice a3 n3 c3] w (GivesNo w) := by
  refine (callsIn_wide (n := 4)).1 ?_
  refine callsIn_of_wp_marks Try.func52 rfl trivial ?_ rfl
  simp only [Try.ntmps52, List.size_toArray, List.length_cons, List.length_nil, Nat.reduceAdd, Nat.reduceSub, Array.replicate_succ, Array.replicate_zero, List.push_toArray, List.append_toArray, List.nil_append, List.cons_append]
  refine wpIn_wide.2 ?_
  go_upto_region 1 with (fail)
  obtain ⟨W1, b3, hW1, hb3, r3, l1, z1⟩ := boxed w 23 (.slice a1 n1 c1)
  rw [← hW1, ← hb3]
  obtain ⟨W2, b5, hW2, hb5, r5, l2, z2⟩ := boxed W1 23 (.slice a3 n3 c3)
  rw [← hW2, show b3 + 1 = b5 by rw [hb5, z1]]
  have l12 := l1.trans (l2.mono l1.size)
  have HB := mkHid (bits_nm (h''.keep l12))
  have q5 := r5.cell0
  clear hW1 hW2 hb3 hb5 l1 l2 z1 z2
  go_wp2_with (go_at_call 28; (with_reducible refine HB.out.mono ?_); rintro e w' ⟨rfl, rfl⟩; rw [bitLen_zero])
  exact ⟨_, results_tmp2 rfl _ _ _, none, 0, rfl, l12⟩

theorem exp_big (h : Nm w a1 n1 c1 m u) (h' : Nm w a2 n2 c2 k v) (h'' : Nm w a3 n3 c3 l x) (hx : 0 < x) (hm : mayB [u, v, x] = false) : Calls Try.prog 52 #[.slice a1 n1 c1, .slice a2 n2 c2, .slice a3 n3 c3] w (GivesNo w) := by
  obtain ⟨B, hB⟩ : ∃ B, B = bitLen x := ⟨_, rfl⟩
  have hb0 := bl_pos hx
  rw [← hB] at hb0
  have t1 : ((B : Int) == 0) = false := beq_f (n := 0) (by omega)
  have HBX := mkHid hB
  clear hB
  refine (callsIn_wide (n := 4)).1 ?_
  refine callsIn_of_wp_marks Try.func52 rfl trivial ?_ rfl
  simp only [Try.ntmps52, List.size_toArray, List.length_cons, List.length_nil, Nat.reduceAdd, Nat.reduceSub, Array.replicate_succ, Array.replicate_zero, List.push_toArray, List.append_toArray, List.nil_append, List.cons_append]
  refine wpIn_wide.2 ?_
  go_upto_region 1 with (fail)
  obtain ⟨W1, b3, hW1, hb3, r3, l1, z1⟩ := boxed w 23 (.slice a1 n1 c1)
  rw [← hW1, ← hb3]
  obtain ⟨W2, b5, hW2, hb5, r5, l2, z2⟩ := boxed W1 23 (.slice a3 n3 c3)
  rw [← hW2, show b3 + 1 = b5 by rw [hb5, z1]]
  have l12 := l1.trans (l2.mono l1.size)
  have HB := mkHid (bits_nm (h''.keep l12))
  have hmay := may3 (h.keep l12) (h'.keep l12) (h''.keep l12)
  rw [hm] at hmay
  have HMY := mkHid hmay
  have q3 := (r3.keep l2).cell0
  have q5 := r5.cell0
  clear hW1 hW2 hb3 hb5 l1 l2 z1 z2 hm hmay
  go_wp2_with (first
    | (go_at_call 28; (with_reducible refine HB.out.mono ?_); rintro e w' ⟨rfl, rfl⟩; rw [← HBX.out])
    | (go_at_call 79; (with_reducible refine HMY.out.mono ?_); rintro e w1 ⟨rfl, hb1⟩))
  exact ⟨_, results_tmp2 rfl _ _ _, none, 0, rfl, l12.trans (hb1.mono l12.size)⟩

/-- what is common to the two ways of Exp: the boxes, and the base taken down -/
theorem exp_mont (h : Nm w a1 n1 c1 m u) (h' : Nm w a2 n2 c2 k v) (h'' : Nm w a3 n3 c3 l x) (hx : 1 < x) (hodd : x % 2 = 1) (hm : mayB [u, v, x] = true) (hl : l ≤ 400000) :
    Calls Try.prog 52 #[.slice a1 n1 c1, .slice a2 n2 c2, .slice a3 n3 c3] w (GivesCB w true l (u ^ v % x)) := by
  obtain ⟨B, hB⟩ : ∃ B, B = bitLen x := ⟨_, rfl⟩
  have hb0 : ¬ bitLen x < 2 := fun h => by have := bl_lt2.1 h; omega
  rw [← hB] at hb0
  have t1 : ((B : Int) == 0) = false := beq_f (n := 0) (by omega)
  have t2 : decide (1 < (B : Int)) = true := decide_eq_true (by omega)
  have HBX := mkHid hB
  have HODD := mkHid hodd
  have hx0 : 0 < x := by omega
  have hltl := mkHid h''.lt
  have hlm := h''.hm
  clear hB hodd
  refine (callsIn_wide (n := 4)).1 ?_
  refine callsIn_of_wp_marks Try.func52 rfl trivial ?_ rfl
  simp only [Try.ntmps52, List.size_toArray, List.length_cons, List.length_nil, Nat.reduceAdd, Nat.reduceSub, Array.replicate_succ, Array.replicate_zero, List.push_toArray, List.append_toArray, List.nil_append, List.cons_append]
  refine wpIn_wide.2 ?_
  go_upto_region 1 with (fail)
  obtain ⟨W1, b3, hW1, hb3, r3, l1, z1⟩ := boxed w 23 (.slice a1 n1 c1)
  rw [← hW1, ← hb3]
  obtain ⟨W2, b5, hW2, hb5, r5, l2, z2⟩ := boxed W1 23 (.slice a3 n3 c3)
  rw [← hW2, show b3 + 1 = b5 by rw [hb5, z1]]
  have l12 := l1.trans (l2.mono l1.size)
  have HB := mkHid (bits_nm (h''.keep l12))
  have hmay := may3 (h.keep l12) (h'.keep l12) (h''.keep l12)
  rw [hm] at hmay
  have HMY := mkHid hmay
  replace h := h.keep l12
  replace h' := h'.keep l12
  replace h'' := h''.keep l12
  replace r3 := r3.keep l2
  have hz0 : w.heap.size ≤ b3 := by omega
  have hd35 : b5 ≠ b3 := by omega
  have q3 := r3.cell0
  have q5 := r5.cell0
  clear hW1 hW2 hb3 hb5 l1 l2 z1 z2 hm hmay
  go_upto_region 4 with (first
    | (go_at_call 28; (with_reducible refine HB.out.mono ?_); rintro e w' ⟨rfl, rfl⟩; rw [← HBX.out])
    | (go_at_call 79; (with_reducible refine HMY.out.mono ?_); rintro e w1 ⟨rfl, hb1⟩; replace h := h.keep hb1; replace h' := h'.keep hb1; replace h'' := h''.keep hb1; replace r3 := r3.keep hb1; replace r5 := r5.keep hb1; replace q3 := r3.cell0; replace q5 := r5.cell0; have l11 := l12.trans (hb1.mono l12.size))
    | (go_at_call 78; (with_reducible refine (rest_any h h'' hx0).mono ?_); rintro e w2 ⟨a4, n4, c4, rfl, hA, hb2⟩; replace h' := h'.keep hb2; replace h'' := h''.keep hb2; replace r3 := r3.keep hb2; replace r5 := r5.keep hb2; replace q3 := r3.cell0; have f3 := r3.frozen0; replace q5 := r5.cell0; have l22 := l11.trans (hb2.mono l11.size)))
  obtain ⟨W3, hW3⟩ : ∃ W3, W3 = w2.setCell ⟨b3, 0, none⟩ (.slice a4 n4 c4) := ⟨_, rfl⟩
  have hg : w2.grownBy W3 (some b3) := by rw [hW3]; exact grown_set (grown_refl _ _) 0 _
  have r3' : Row W3 b3 23 [.slice a4 n4 c4] := by rw [hW3]; exact r3.set0 _
  rw [← hW3]
  replace h' := h'.grownBox r3 (fun x e => by cases e) hg
  replace h'' := h''.grownBox r3 (fun x e => by cases e) hg
  replace hA := hA.grownBox r3 (fun x e => by cases e) hg
  replace r5 := r5.grown hg hd35
  have l33 := l22.trans (grown_below hg hz0 l22.size)
  have HB2 := mkHid (bits_nm h'')
  have hbit := bit_nm h'' 0 (by omega)
  rw [bit0, HODD.out] at hbit
  have HBI := mkHid hbit
  replace q3 := r3'.cell0
  replace q5 := r5.cell0
  clear hW3 r3 f3 hg l22 l11 l12 h HB HMY hbit hb2 hb1
  go_wp2_with (first
    | (go_at_call 29; (with_reducible refine HBI.out.mono ?_); rintro e w' ⟨rfl, rfl⟩)
    | (go_at_call 28; (with_reducible refine HB2.out.mono ?_); rintro e w' ⟨rfl, rfl⟩; rw [← HBX.out])
    | (go_at_call 81; (with_reducible refine (new_any h'' hl HODD.out hx).mono ?_); rintro e w5 ⟨p, n, rfl, hM, hb5⟩; replace h' := h'.keep hb5; replace hA := hA.keep hb5; replace q3 := (r3'.keep hb5).cell0; have l55 := l33.trans (hb5.mono l33.size))
    | (go_at_call 83; (with_reducible refine (mto_any hM hA.sl (Nat.mod_lt _ hx0)).mono ?_); rintro e w6 ⟨a7, c7, rfl, hV, hb6⟩; replace h' := h'.keep hb6; have hM6 := hM.keep hb6; have l66 := l55.trans (hb6.mono l55.size))
    | (go_at_call 82; (with_reducible refine (mexp_any hM6 hV h').mono ?_); rintro e w8 ⟨a9, c9, rfl, hX, hb8⟩; have hM8 := hM6.keep hb8; have l88 := l66.trans (hb8.mono l66.size))
    | (go_at_call 84; (with_reducible refine (mfrom_any hM8 hX rfl hltl.out hlm).mono ?_); rintro e w9 ⟨a10, n10, c10, rfl, hT, hb9⟩))
  rw [← Nat.pow_mod] at hT
  exact ⟨_, results_tmp2 rfl _ _ _, a10, n10, c10, rfl, hT, l88.trans (hb9.mono l88.size)⟩

set_option maxRecDepth 100000 in
set_option maxHeartbeats 2000000 in
theorem exp_plain (h : Nm w a1 n1 c1 m u) (h' : Nm w a2 n2 c2 k v) (h'' : Nm w a3 n3 c3 l x) (hx0 : 0 < x) (hpl : x % 2 = 1 → x = 1) (hm : mayB [u, v, x] = true) (hl : l ≤ 400000) :
    Calls Try.prog 52 #[.slice a1 n1 c1, .slice a2 n2 c2, .slice a3 n3 c3] w (GivesCB w true l (u ^ v % x)) := by
  obtain ⟨B, hB⟩ : ∃ B, B = bitLen x := ⟨_, rfl⟩
  have hb0 := bl_pos hx0
  rw [← hB] at hb0
  have t1 : ((B : Int) == 0) = false := beq_f (n := 0) (by omega)
  obtain ⟨bt, hbt⟩ : ∃ bt, bt = x % 2 := ⟨_, rfl⟩
  have hpl2 : bt = 1 → B = 1 := fun h => by rw [hB]; exact bl_one.2 (hpl (by omega))
  have HBB := mkHid hbt
  have HPL := mkHid hpl2
  have HBX := mkHid hB
  have hltl := mkHid h''.lt
  have hlm := h''.hm
  clear hB hbt hpl hpl2
  refine (callsIn_wide (n := 4)).1 ?_
  refine callsIn_of_wp_marks Try.func52 rfl trivial ?_ rfl
  simp only [Try.ntmps52, List.size_toArray, List.length_cons, List.length_nil, Nat.reduceAdd, Nat.reduceSub, Array.replicate_succ, Array.replicate_zero, List.push_toArray, List.append_toArray, List.nil_append, List.cons_append]
  refine wpIn_wide.2 ?_
  go_upto_region 1 with (fail)
  obtain ⟨W1, b3, hW1, hb3, r3, l1, z1⟩ := boxed w 23 (.slice a1 n1 c1)
  rw [← hW1, ← hb3]
  obtain ⟨W2, b5, hW2, hb5, r5, l2, z2⟩ := boxed W1 23 (.slice a3 n3 c3)
  rw [← hW2, show b3 + 1 = b5 by rw [hb5, z1]]
  have l12 := l1.trans (l2.mono l1.size)
  have HB := mkHid (bits_nm (h''.keep l12))
  have hmay := may3 (h.keep l12) (h'.keep l12) (h''.keep l12)
  rw [hm] at hmay
  have HMY := mkHid hmay
  replace h := h.keep l12
  replace h' := h'.keep l12
  replace h'' := h''.keep l12
  replace r3 := r3.keep l2
  have hz0 : w.heap.size ≤ b3 := by omega
  have hd35 : b5 ≠ b3 := by omega
  have q3 := r3.cell0
  have q5 := r5.cell0
  clear hW1 hW2 hb3 hb5 l1 l2 z1 z2 hm hmay
  go_upto_region 4 with (first
    | (go_at_call 28; (with_reducible refine HB.out.mono ?_); rintro e w' ⟨rfl, rfl⟩; rw [← HBX.out])
    | (go_at_call 79; (with_reducible refine HMY.out.mono ?_); rintro e w1 ⟨rfl, hb1⟩; replace h := h.keep hb1; replace h' := h'.keep hb1; replace h'' := h''.keep hb1; replace r3 := r3.keep hb1; replace r5 := r5.keep hb1; replace q3 := r3.cell0; replace q5 := r5.cell0; have l11 := l12.trans (hb1.mono l12.size))
    | (go_at_call 78; (with_reducible refine (rest_any h h'' hx0).mono ?_); rintro e w2 ⟨a4, n4, c4, rfl, hA, hb2⟩; replace h' := h'.keep hb2; replace h'' := h''.keep hb2; replace r3 := r3.keep hb2; replace r5 := r5.keep hb2; replace q3 := r3.cell0; have f3 := r3.frozen0; replace q5 := r5.cell0; have l22 := l11.trans (hb2.mono l11.size)))
  obtain ⟨W3, hW3⟩ : ∃ W3, W3 = w2.setCell ⟨b3, 0, none⟩ (.slice a4 n4 c4) := ⟨_, rfl⟩
  have hg : w2.grownBy W3 (some b3) := by rw [hW3]; exact grown_set (grown_refl _ _) 0 _
  have r3' : Row W3 b3 23 [.slice a4 n4 c4] := by rw [hW3]; exact r3.set0 _
  rw [← hW3]
  replace h' := h'.grownBox r3 (fun x e => by cases e) hg
  replace h'' := h''.grownBox r3 (fun x e => by cases e) hg
  replace hA := hA.grownBox r3 (fun x e => by cases e) hg
  replace r5 := r5.grown hg hd35
  have l33 := l22.trans (grown_below hg hz0 l22.size)
  have HB2 := mkHid (bits_nm h'')
  have hbit := bit_nm h'' 0 (by omega)
  rw [bit0, ← HBB.out] at hbit
  have HBI := mkHid hbit
  replace q3 := r3'.cell0
  replace q5 := r5.cell0
  clear hW3 r3 f3 hg l22 l11 l12 h HB HMY hbit hb2 hb1
  go_upto_region 4 with (fail)
  obtain ⟨W4, hW4⟩ : ∃ W4, W4 = W3 := ⟨_, rfl⟩
  subst hW4
  go_cut [33] from 26 to 32 (fun tv wc => tv = .bool false ∧ W4 = wc)
  case first =>
    by_cases h1 : bt = 1
    · have e1 := HPL.out h1
      have t2 : ((bt : Int) == 1) = true := beq_t (n := 1) h1
      have t3 : decide (1 < (B : Int)) = false := decide_eq_false (by omega)
      clear h1 e1
      go_wp2_with (first
        | (go_at_call 29; (with_reducible refine HBI.out.mono ?_); rintro e w' ⟨rfl, rfl⟩)
        | (go_at_call 28; (with_reducible refine HB2.out.mono ?_); rintro e w' ⟨rfl, rfl⟩; rw [← HBX.out]))
      go_meet
      case rel => exact ⟨rfl, rfl⟩
    · have t2 : ((bt : Int) == 1) = false := beq_f (n := 1) h1
      clear h1
      go_wp2_with (first
        | (go_at_call 29; (with_reducible refine HBI.out.mono ?_); rintro e w' ⟨rfl, rfl⟩))
      go_meet
      case rel => exact ⟨rfl, rfl⟩
  case rest =>
    obtain ⟨rfl, hwe⟩ := hcut
    subst hwe
    go_upto_region 7 with (fail)
    obtain ⟨W5, hW5⟩ : ∃ W5, W5 = W4 := ⟨_, rfl⟩
    subst hW5
    go_cut [9] from 44 to 46 (fun v wc => ∃ b a n c, v = .pointer (some ⟨b, 0, none⟩) ∧ Row wc b 23 [.slice a n c] ∧ Cn wc a n c l (1 % x) ∧ W5.heap.size ≤ b ∧ Below W5.heap.size W5 wc)
    case first =>
      have hbd : Below W5.heap.size W5 W5.drew := (Below.refl _ _).drew
      have m0 := h''.keep hbd
      have r50 := r5.keep hbd
      have ma : ∀ o, Nm (W5.alloc o).drew a3 n3 c3 l x := fun o => (h''.alloc o).keep (Below.refl _ _).drew
      have ra : ∀ o, Row (W5.alloc o).drew b5 23 [.slice a3 n3 c3] := fun o => (r5.alloc o).keep (Below.refl _ _).drew
      have MA := mkHid ma
      have RA := mkHid ra
      have rn := (newRow W5 23 (.slice none 0 0)).keep (Below.refl _ _).drew
      clear ma ra
      refine wp_region_noPanic ?_
      go_region_held3 (fun w' => w'.cell? ⟨b5, 0, none⟩ = some (.slice a3 n3 c3))
        (first | go_keep | exact (r50.keep hbq).cell0 | exact ((RA.out _).keep hbq).cell0 | exact ((r50.keep hbq).alloc _).cell0 | exact ((r50.keep hbq).keep hbr).cell0 | exact (((RA.out _).keep hbq).keep hbr).cell0 | exact (((r50.keep hbq).alloc _).keep hbr).cell0 | exact (((r50.keep hbq).keep hbr).alloc _).cell0 | exact (((((r50.keep hbq).alloc _).keep hbr).set_other (Nat.ne_of_gt (r50.keep hbq).lt) _ _).cell0) | exact (((((RA.out _).keep hbq).keep hbr).set_other (Nat.ne_of_gt r5.lt) _ _).cell0))
        (first
        | (go_at_call 62; (with_reducible refine (of_nm1 1 (by omega) (by omega) _).mono ?_); rintro e wq ⟨a8, n8, c8, rfl, hO, hbq⟩)
        | (go_at_call 78; (with_reducible refine (rest_any hO.nm (m0.keep hbq) hx0).mono ?_); rintro e wr ⟨a9, n9, c9, rfl, hR, hbr⟩)
        | (go_at_call 78; (with_reducible refine (rest_any hO.nm ((MA.out _).keep hbq) hx0).mono ?_); rintro e wr ⟨a9, n9, c9, rfl, hR, hbr⟩; have rb := (rn.keep hbq).keep hbr; have qb := rb.cell0; have fb := rb.frozen0)
        | (go_at_call 78; (with_reducible refine (rest_any (hO.alloc _).nm ((m0.keep hbq).alloc _) hx0).mono ?_); rintro e wr ⟨a9, n9, c9, rfl, hR, hbr⟩; have rb := (newRow wq 23 (.slice none 0 0)).keep hbr; have qb := rb.cell0; have fb := rb.frozen0))
      all_goals (
        refine NoPanic.normal ?_
        go_wp2
        go_meet
        case rel =>
          first
          | (have q1 := hbq.size
             have bl := hbd.trans (hbq.trans (hbr.mono q1))
             exact ⟨_, a9, n9, c9, rfl, newRow _ _ _, hR.alloc _, bl.size, bl.alloc bl.size _⟩)
          | (have q0 := (below_alloc (Obj.cells #[Value.slice none 0 0] 23) (Nat.le_refl W5.heap.size)).drew
             have q1 := hbq.size
             have bl := q0.trans ((hbq.trans (hbr.mono q1)).mono q0.size)
             exact ⟨_, a9, n9, c9, rfl, rb.set0 _, hR.grownBox rb (fun x e => by cases e) (grown_set (grown_refl _ _) 0 _), Nat.le_refl _, bl.setCell (p := ⟨W5.heap.size, 0, none⟩) (Nat.le_refl _) _⟩)
          | (have q1 := hbq.size
             have bl := hbd.trans ((hbq.alloc q1 (Obj.cells #[Value.slice none 0 0] 23)).trans (hbr.mono (by rw [World.size_alloc]; exact Nat.le_succ_of_le q1)))
             exact ⟨_, a9, n9, c9, rfl, rb.set0 _, hR.grownBox rb (fun x e => by cases e) (grown_set (grown_refl _ _) 0 _), q1, bl.setCell (p := ⟨wq.heap.size, 0, none⟩) q1 _⟩))
    case rest =>
      obtain ⟨b9, a9, n9, c9, rfl, r9, h9, hle9, hb9⟩ := hcut
      have hz9 : w.heap.size ≤ b9 := Nat.le_trans l33.size hle9
      have hd59 : b5 ≠ b9 := by have := r5.lt; omega
      have hd39 : b3 ≠ b9 := by have := r3'.lt; omega
      replace h' := h'.keep hb9
      replace h'' := h''.keep hb9
      replace hA := hA.keep hb9
      replace r5 := r5.keep hb9
      replace r3' := r3'.keep hb9
      have l99 := l33.trans (hb9.mono l33.size)
      have hz9' := r9.lt
      clear hb9 hle9 l33 HB2 HBI q3 q5 HPL HBB t1 hb0 hd35 hz0
      go_upto_region 9 with (first
        | (go_at_call 26; (with_reducible refine (each_nmo h').mono ?_); rintro e w0 ⟨Bs, rfl, hbox, hb10⟩))
      replace h'' := h''.keep hb10
      replace hA := hA.keep hb10
      replace r5 := r5.keep hb10
      replace r3' := r3'.keep hb10
      replace r9 := r9.keep hb10
      replace h9 := h9.keep hb10
      have l10 := l99.trans (hb10.mono l99.size)
      have hz10 := hb10.size
      clear h' l99 hb10
      refine (wpIn_wide (n := 4)).1 ?_
      refine wpIn_rangeFunc_ownF rfl (by omega) (gf := 71) (lb := #[.pointer (some ⟨Bs, 0, none⟩)]) rfl trivial (enters_of Try.func71 (by kernel_rfl) rfl)
        (each_stopsM _ Bs v w0 hbox) (fun h k => h.trans k) (fun W l o o' => Mid.put (Nat.le_refl _) W l o o') (Below.refl _ _) (fun _ => rfl)
        (fun pre W => (∃ ao no co, Row W b9 23 [.slice ao no co] ∧ Cn W ao no co l (expo (u % x) v pre % x)) ∧ w0.grownBy W (some b9))
        (fun _ _ _ => False)
        (OwnFrom.and (fun s X Y row hs hg hr => by
          obtain ⟨ao, no, co, hx1, hx2⟩ := hs
          exact ⟨ao, no, co, hx1.kept hg (fun r e => (hr r e).2), hx2.kept hg (fun r e => (hr r e).2)⟩) (ownFrom_grown (Nat.le_refl _)))
        (fun _ _ _ _ _ hs _ _ => hs)
        ⟨⟨a9, n9, c9, r9, by simpa [expo] using h9⟩, grown_refl _ _⟩ ?a1 ?assign ?body ?done ?stop
      case assign =>
        intro l x W K hK
        gi_wp2
        exact hK
      case stop =>
        rintro D c pre W _ _ h _
        exact h.elim
      case body =>
        rintro lr pre i W ⟨⟨ao, no, co, hr, hv⟩, hg⟩ hlen
        have hbd : Below W.heap.size W W.drew := (Below.refl _ _).drew
        have hX := (h''.grownBox r9 (fun x e => by cases e) hg)
        have hA' := (hA.grownBox r9 (fun x e => by cases e) hg)
        have rX := (r5.grown hg hd59)
        have rA := (r3'.grown hg hd39)
        have qX := rX.cell0
        have qA := rA.cell0
        have qO := hr.cell0
        have fO := hr.frozen0
        obtain ⟨E, hE⟩ : ∃ E, E = expo (u % x) v pre := ⟨_, rfl⟩
        have hsn := expo_snoc (u % x) v pre i
        rw [← hE] at hv hsn
        obtain ⟨bt, hbt⟩ : ∃ bt, bt = bitAt v (i : Int) := ⟨_, rfl⟩
        rw [← hbt] at hsn ⊢
        have HSN := mkHid hsn
        have hsz := hg.size
        clear hsn hE hbt
        by_cases hb1 : bt = 1
        · have t1 : ((bt : Int) == 1) = true := beq_t (n := 1) hb1
          have HB1 := mkHid hb1
          clear hb1
          gi_wp2
          gi_region_with (first
            | (refine ⟨trivial, ?_⟩; gi_at_call 34; refine (callsIn_wide.2 (mul_nm (hv.keep hbd).nm (hv.keep hbd).nm (by omega))).mono ?_; rintro e' w5 ⟨a5, n5, c5, rfl, hP, hb5⟩; have qX5 := ((rX.keep hbd).keep hb5).cell0)
            | (refine ⟨trivial, ?_⟩; gi_at_call 78; refine (callsIn_wide.2 (rest_any hP.nm ((hX.keep hbd).keep hb5) hx0)).mono ?_; rintro e' w6 ⟨a6, n6, c6, rfl, hR, hb6⟩; have qO6 := (((hr.keep hbd).keep hb5).keep hb6).cell0; have fO6 := (((hr.keep hbd).keep hb5).keep hb6).frozen0))
          all_goals (
            have hb56 := hbd.trans ((hb5.trans (hb6.mono hb5.size)).mono hbd.size)
            have hg2 := grown_trans (grown_of_below hb56 (some b9)) (grown_set (grown_refl w6 (some b9)) 0 (Value.slice a6 n6 c6))
            have hr7 := (hr.keep hb56).set0 (Value.slice a6 n6 c6)
            have hv7 := hR.grownBox (hr.keep hb56) (fun x e => by cases e) (grown_set (grown_refl w6 (some b9)) 0 (Value.slice a6 n6 c6))
            have hX7 := hX.grownBox hr (fun x e => by cases e) hg2
            have hA7 := hA'.grownBox hr (fun x e => by cases e) hg2
            have rX7 := rX.grown hg2 hd59
            have rA7 := rA.grown hg2 hd39
            have ok7 := KeepsOthers.of_grownBy hg2 hr.cellsAt
            generalize w6.setCell ⟨b9, 0, none⟩ (Value.slice a6 n6 c6) = W7 at *
            clear qX qA qO fO qX5 qO6 fO6 hb5 hb6 hP hR hb56 hv hX hA' rX rA hbd
            have hbd : Below W7.heap.size W7 W7.drew := (Below.refl _ _).drew
            have qX := rX7.cell0
            have qA := rA7.cell0
            have qO := hr7.cell0
            have fO := hr7.frozen0
            gi_wp2
            gi_region_with (first
              | (refine ⟨trivial, ?_⟩; gi_at_call 34; refine (callsIn_wide.2 (mul_nm (hv7.keep hbd).nm (hA7.keep hbd).nm (by omega))).mono ?_; rintro e' w8 ⟨a8, n8, c8, rfl, hP, hb8⟩; have qX5 := ((rX7.keep hbd).keep hb8).cell0)
              | (refine ⟨trivial, ?_⟩; gi_at_call 78; refine (callsIn_wide.2 (rest_any hP.nm ((hX7.keep hbd).keep hb8) hx0)).mono ?_; rintro e' w9 ⟨a10, n10, c10, rfl, hR, hb9⟩; have qO6 := (((hr7.keep hbd).keep hb8).keep hb9).cell0; have fO6 := (((hr7.keep hbd).keep hb8).keep hb9).frozen0))
            all_goals (
              gi_wp2
              have hb56 := hbd.trans ((hb8.trans (hb9.mono hb8.size)).mono hbd.size)
              have hg3 := grown_trans (grown_of_below hb56 (some b9)) (grown_set (grown_refl w9 (some b9)) 0 (Value.slice a10 n10 c10))
              have hg23 := grown_trans hg2 hg3
              refine ⟨ok7.trans (KeepsOthers.of_grownBy hg3 hr7.cellsAt), Mid.ofGrown hg23 hz9' hsz, ⟨a10, n10, c10, (hr7.keep hb56).set0 _, ?_⟩, grown_trans hg hg23⟩
              rw [HSN.out, if_pos HB1.out, mod_mul_l (E * E), Nat.mul_mod E E, Nat.mul_mod _ (u % x), Nat.mod_mod]
              rw [Nat.mul_mod _ (u % x), Nat.mod_mod] at hR
              exact hR.grownBox (hr7.keep hb56) (fun x e => by cases e) (grown_set (grown_refl w9 (some b9)) 0 (Value.slice a10 n10 c10))))
        · have t1 : ((bt : Int) == 1) = false := beq_f (n := 1) hb1
          have HB1 := mkHid hb1
          clear hb1
          gi_wp2
          gi_region_with (first
            | (refine ⟨trivial, ?_⟩; gi_at_call 34; refine (callsIn_wide.2 (mul_nm (hv.keep hbd).nm (hv.keep hbd).nm (by omega))).mono ?_; rintro e' w5 ⟨a5, n5, c5, rfl, hP, hb5⟩; have qX5 := ((rX.keep hbd).keep hb5).cell0)
            | (refine ⟨trivial, ?_⟩; gi_at_call 78; refine (callsIn_wide.2 (rest_any hP.nm ((hX.keep hbd).keep hb5) hx0)).mono ?_; rintro e' w6 ⟨a6, n6, c6, rfl, hR, hb6⟩; have qO6 := (((hr.keep hbd).keep hb5).keep hb6).cell0; have fO6 := (((hr.keep hbd).keep hb5).keep hb6).frozen0))
          all_goals (
            gi_wp2
            have hb56 := hbd.trans ((hb5.trans (hb6.mono hb5.size)).mono hbd.size)
            have hg2 := grown_trans (grown_of_below hb56 (some b9)) (grown_set (grown_refl w6 (some b9)) 0 (Value.slice a6 n6 c6))
            refine ⟨KeepsOthers.of_grownBy hg2 hr.cellsAt, Mid.ofGrown hg2 hz9' hsz, ⟨a6, n6, c6, (hr.keep hb56).set0 _, ?_⟩, grown_trans hg hg2⟩
            rw [HSN.out, if_neg HB1.out, Nat.mul_mod E E]
            exact hR.grownBox (hr.keep hb56) (fun x e => by cases e) (grown_set (grown_refl w6 (some b9)) 0 (Value.slice a6 n6 c6)))
      case done =>
        rintro D ys W hD rfl ⟨⟨ao, no, co, hr, hv⟩, hg⟩ hK
        have cO := hr.cell0
        rw [expo_all] at hv
        go_wp2
        refine ⟨by simp, .inl ⟨_, _, rfl, run_takeDeferred hK, ?_⟩⟩
        have hrow : ∀ r, some D = some r → ∃ o : Obj, W.heap[r]? = some o ∧ o.isCells = false := fun r e => by cases e; exact ⟨_, hK, rfl⟩
        rw [← Nat.pow_mod] at hv
        refine ⟨_, results_tmp2 rfl _ _ _, ao, no, co, rfl, hv.kept (grownBy_putObj' W D (.deferred none)) hrow, ?_⟩
        exact (l10.trans (grown_below hg (by omega) l10.size)).trans (belowK_b (w := w) (Nat.le_refl _) W D _ _ (by have := l10.size; omega) hK rfl rfl)

end

end Go.Proofs.Ytaeamlldocbeeaa
