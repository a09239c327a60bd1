/- zmont: Exp. -/
import Derived.Test.YtaeamlldocbeeaaMont5
import Derived.Test.YtaeamlldocbeeaaNm2
import Derived.Test.YtaeamlldocbeeaaBegun
namespace Go.Proofs.Ytaeamlldocbeeaa
open Go.RowKit Go.Shelf Num

/-- a power by the bits of the exponent, as far as they are told -/
def expo (A e : Nat) (pre : List Nat) : Nat := pre.foldl (fun v (x : Nat) => if bitAt e (x : Int) = 1 then v * v * A else v * v) 1

theorem expo_snoc (A e : Nat) (pre : List Nat) (x : Nat) : expo A e (pre ++ [x]) = if bitAt e (x : Int) = 1 then expo A e pre * expo A e pre * A else expo A e pre * expo A e pre := by
  simp [expo, List.foldl_append]

theorem bitAt_nat (e x : Nat) : bitAt e (x : Int) = e / 2 ^ x % 2 := by
  unfold bitAt
  rw [if_pos (by omega), Int.toNat_natCast]

theorem expo_downTo (A e : Nat) (j : Nat) (hj : j ≤ bitLen e) : expo A e (downTo (bitLen e) j) = A ^ (e / 2 ^ (bitLen e - j)) := by
  induction j with
  | zero =>
    rw [Nat.sub_zero, Nat.div_eq_of_lt ((bitLen_le e _).1 (Nat.le_refl _))]
    rfl
  | succ j ih =>
    rw [downTo_succ, expo_snoc, ih (by omega), bitAt_nat, show bitLen e - (j + 1) = bitLen e - 1 - j by omega, show bitLen e - j = bitLen e - 1 - j + 1 by omega, pow_double]
    have hb := exp_bit e (bitLen e - 1 - j)
    generalize e / 2 ^ (bitLen e - 1 - j + 1) = q at *
    generalize e / 2 ^ (bitLen e - 1 - j) = p at *
    by_cases h : p % 2 = 1
    · rw [if_pos h, ← Nat.pow_succ]; congr 1; omega
    · rw [if_neg h]; congr 1; omega

theorem expo_all (A e : Nat) : expo A e (downTo (bitLen e) (bitLen e)) = A ^ e := by
  rw [expo_downTo A e _ (Nat.le_refl _), Nat.sub_self, Nat.pow_zero, Nat.div_one]

theorem Row.kept {W W' : World} {b : Nat} {T : TypeId} {vs : List Value} {row : Option Nat} (h : Row W b T vs) (hg : W.grownBy W' row)
    (hr : ∀ r, row = some r → ∃ o : Obj, W.heap[r]? = some o ∧ o.isCells = false) : Row W' b T vs := by
  refine (hg.block b h.lt ?_).trans h
  intro e
  obtain ⟨o, ho, hc⟩ := hr b e.symm
  unfold Row at h
  rw [h] at ho
  cases ho
  cases hc

theorem Sl.kept {k : IntKind} {W W' : World} {a : Option Addr} {n c : Nat} {xs : List Nat} {row : Option Nat} (h : Sl k W a n c xs) (hg : W.grownBy W' row)
    (hr : ∀ r, row = some r → ∃ o : Obj, W.heap[r]? = some o ∧ o.isCells = false) : Sl k W' a n c xs := by
  refine ⟨h.len, h.le, h.cap, h.nil, h.spot, fun i hi => ?_⟩
  obtain ⟨b, o, e, hc⟩ := h.rd i hi
  exact ⟨b, o, e, cell_kept hc hg hr⟩

theorem Vc.kept {W W' : World} {a : Option Addr} {n c v : Nat} {row : Option Nat} (h : Vc W a n c v) (hg : W.grownBy W' row)
    (hr : ∀ r, row = some r → ∃ o : Obj, W.heap[r]? = some o ∧ o.isCells = false) : Vc W' a n c v := by
  obtain ⟨xs, h1, h2, h3⟩ := h.ex
  exact ⟨xs, h1.kept hg hr, h2, h3⟩

/-- a slice of numbers does not lie in a box of a slice -/
theorem Sl.apart {k : IntKind} {W : World} {a a' : Option Addr} {n c n' c' b : Nat} {T : TypeId} {xs : List Nat} (h : Sl k W a n c xs) (hr : Row W b T [.slice a' n' c']) (hn : 0 < n) : ∀ q, a = some q → q.block ≠ b := by
  intro q e he
  obtain ⟨b', o', e', hc⟩ := h.rd 0 (by rw [h.len]; exact hn)
  rw [e] at e'
  cases e'
  have he' : b' = b := he
  subst he'
  have := hr.cell (o' + 0)
  rw [hc] at this
  cases o' with
  | zero => simp at this
  | succ o' => simp at this

theorem Vc.grown {W W' : World} {a a' : Option Addr} {n c n' c' b v : Nat} {T : TypeId} (h : Vc W a n c v) (hr : Row W b T [.slice a' n' c']) (hn : 0 < n) (hg : W.grownBy W' (some b)) : Vc W' a n c v := by
  obtain ⟨xs, h1, h2, h3⟩ := h.ex
  exact ⟨xs, h1.grown hg (h1.apart hr hn), h2, h3⟩

theorem Mo.grown {W W' : World} {a' : Option Addr} {n' c' b p n m : Nat} {T : TypeId} (h : Mo W p n m) (hr : Row W b T [.slice a' n' c']) (hg : W.grownBy W' (some b)) : Mo W' p n m := by
  have hpos := h.pos
  obtain ⟨am, cm, inv, a1, c1, a2, c2, h1, h2, h3, h4, h5, h6⟩ := h.ex
  have hne : p ≠ b := by
    rintro rfl
    have := (Row.cell h1 1).symm.trans (Row.cell hr 1)
    simp at this
  exact ⟨⟨am, cm, inv, a1, c1, a2, c2, Row.grown h1 hg hne, h2.grown hg (h2.apart hr hpos), h3, h4, h5.grown hr hpos hg, h6.grown hr hpos hg⟩, h.hn, h.odd, h.gt⟩

theorem grown_of_below {A C : World} (h : Below A.heap.size A C) (r : Option Nat) : A.grownBy C r := ⟨h.os, h.tape, h.output, h.size, fun i hi _ => h.block i hi⟩

theorem Row.cellsAt {W : World} {b : Nat} {T : TypeId} {vs : List Value} (h : Row W b T vs) : ∀ (j : Nat) (o : Obj), some b = some j → W.heap[j]? = some o → o.isCells = true := by
  intro j o e ho
  cases e
  unfold Row at h
  rw [h] at ho
  cases ho
  rfl

theorem each_nmo {w : World} {a1 : Option Addr} {n1 c1 m v : Nat} (h : Nm w a1 n1 c1 m v) : Calls Try.prog 26 #[.slice a1 n1 c1] w fun e w' => ∃ Bs, e = .returned (.func (.func 71) #[] #[.pointer (some ⟨Bs, 0, none⟩)]) ∧ BoxOw w.heap.size w' Bs v ∧ Below w.heap.size w w' := by
  obtain ⟨xs, h1, h2, h3⟩ := h.ex
  have := h.hn
  have := each_own h1 h2 (by omega)
  rwa [h3] at this

/-- what a box of a slice says after a call and a store into it -/
structure Stepped (W W2 : World) (b : Nat) (T : TypeId) (a : Option Addr) (n c v : Nat) : Prop where
  row : Row W2 b T [.slice a n c]
  vec : Vc W2 a n c v
  grown : W.grownBy W2 (some b)
  others : KeepsOthers W W2

theorem boxStep {W W1 : World} {b : Nat} {T : TypeId} {a a' : Option Addr} {n c n' c' v : Nat} (hr : Row W b T [.slice a n c]) (hb : Below W.heap.size W W1) (hv : Vc W1 a' n' c' v) (hn : 0 < n') :
    Stepped W (W1.setCell ⟨b, 0, none⟩ (.slice a' n' c')) b T a' n' c' v := by
  have hr1 := hr.keep hb
  have hg1 : W1.grownBy (W1.setCell ⟨b, 0, none⟩ (.slice a' n' c')) (some b) := grown_set (grown_refl _ _) 0 _
  have hg := grown_trans (grown_of_below hb (some b)) hg1
  exact ⟨hr1.set0 _, hv.grown hr1 hn hg1, hg, KeepsOthers.of_grownBy hg hr.cellsAt⟩

theorem Stepped.trans {W W2 W3 : World} {b : Nat} {T : TypeId} {a a' : Option Addr} {n c n' c' v v' : Nat} (h : Stepped W W2 b T a n c v) (k : Stepped W2 W3 b T a' n' c' v') : Stepped W W3 b T a' n' c' v' :=
  ⟨k.row, k.vec, grown_trans h.grown k.grown, h.others.trans k.others⟩

/-- a new box, named -/
theorem boxed (w : World) (T : TypeId) (v : Value) : ∃ W b, W = w.alloc (Obj.cells #[v] T) ∧ b = w.heap.size ∧ Row W b T [v] ∧ Below w.heap.size w W ∧ W.heap.size = b + 1 :=
  ⟨_, _, rfl, rfl, newRow w T v, below_alloc _ (Nat.le_refl _), World.size_alloc _ _⟩

attribute [local go_sem] Oper.semAt_some

set_option maxRecDepth 100000 in
set_option maxHeartbeats 2000000 in
theorem mexp_any {p n m A e k : Nat} {a1 a2 : Option Addr} {c1 n2 c2 : Nat} {w : World} (h : Mo w p n m) (h1 : Vc w a1 n c1 (A * 18446744073709551616 ^ n % m)) (h2 : Nm w a2 n2 c2 k e) :
    Calls Try.prog 82 #[.pointer (some ⟨p, 0, none⟩), .slice a1 n c1, .slice a2 n2 c2] w (GivesV w n (A ^ e * 18446744073709551616 ^ n % m)) := by
  have hpos := h.pos
  have hm0 : 0 < m := by have := h.gt; omega
  have hcop := mkHid h.cop
  refine (callsIn_wide (n := 4)).1 ?_
  refine callsIn_of_wp_marks Try.func82 rfl trivial ?_ rfl
  simp only [Try.ntmps82, List.size_toArray, List.length_cons, List.length_nil, Nat.reduceAdd, Nat.reduceSub, Array.replicate_succ, Array.replicate_zero, List.push_toArray, List.append_toArray, List.nil_append, List.cons_append]
  refine wpIn_wide.2 ?_
  go_upto_region 1 with (fail)
  obtain ⟨W1, b3, hW1, hb3, r3, l1, z1⟩ := boxed w 92 (.pointer (some ⟨p, 0, none⟩))
  rw [← hW1, ← hb3]
  obtain ⟨W2, b4, hW2, hb4, r4, l2, z2⟩ := boxed W1 22 (.slice a1 n c1)
  rw [← hW2, show b3 + 1 = b4 by rw [hb4, z1]]
  have l12 := l1.trans (l2.mono l1.size)
  have hz0 : w.heap.size ≤ b3 := by omega
  have hz1 : b3 < b4 := by omega
  replace h := h.keep l12
  replace h1 := h1.keep l12
  replace h2 := h2.keep l12
  replace r3 := r3.keep l2
  clear hW1 hW2 hb3 hb4 l1 l2 z1
  have hc3 := r3.cell0
  go_upto_region 2 with (first
    | (go_at_call 92; (with_reducible refine (mone_any h).mono ?_); rintro e w3 ⟨a3, c3, rfl, hv3, hb3⟩))
  obtain ⟨W4, b7, hW4, hb7, r7, l4, z4⟩ := boxed w3 22 (.slice a3 n c3)
  rw [← hW4, ← hb7]
  have l34 := hb3.trans (l4.mono hb3.size)
  have hz2 : b4 < b7 := by have := hb3.size; omega
  replace h := h.keep l34
  replace h1 := h1.keep l34
  replace h2 := h2.keep l34
  replace r3 := r3.keep l34
  replace r4 := r4.keep l34
  replace hv3 := hv3.keep l4
  have l14 := l12.trans (l34.mono l12.size)
  clear hW4 hb7 l4 l34 l12 hb3 hc3 z2
  go_upto_region 3 with (first
    | (go_at_call 26; (with_reducible refine (each_nmo h2).mono ?_); rintro e w0 ⟨Bs, rfl, hbox, hb5⟩))
  replace h := h.keep hb5
  replace h1 := h1.keep hb5
  replace r3 := r3.keep hb5
  replace r4 := r4.keep hb5
  replace r7 := r7.keep hb5
  replace hv3 := hv3.keep hb5
  have l10 := l14.trans (hb5.mono l14.size)
  have hz5 := hb5.size
  have hd3 : b3 ≠ b7 := by omega
  have hd4 : b4 ≠ b7 := by omega
  have hz6 : b7 < W4.heap.size := by omega
  clear h2 l14 hb5
  obtain ⟨N, hN⟩ : ∃ N, N = bitLen e := ⟨_, rfl⟩
  have HN := mkHid hN
  clear hN
  refine (wpIn_wide (n := 4)).1 ?_
  refine wpIn_rangeFunc_ownF rfl (by omega) (gf := 71) (lb := #[.pointer (some ⟨Bs, 0, none⟩)]) rfl trivial (enters_of Try.func71 (by kernel_rfl) rfl)
    (each_stopsM W4.heap.size Bs e w0 hbox) (fun h k => h.trans k) (fun W l o o' => Mid.put (Nat.le_refl _) W l o o') (Below.refl _ _) (fun _ => rfl)
    (fun pre W => (∃ ao co, Row W b7 22 [.slice ao n co] ∧ Vc W ao n co (expo A e pre * 18446744073709551616 ^ n % m)) ∧ w0.grownBy W (some b7))
    (fun _ _ _ => False)
    (OwnFrom.and (fun s X Y row hs hg hr => by
      obtain ⟨ao, co, hx1, hx2⟩ := hs
      exact ⟨ao, co, hx1.kept hg (fun r e => (hr r e).2), hx2.kept hg (fun r e => (hr r e).2)⟩) (ownFrom_grown (Nat.le_refl _)))
    (fun _ _ _ _ _ hs _ _ => hs)
    ⟨⟨a3, c3, r7, by simpa [expo] using hv3⟩, grown_refl _ _⟩ ?a1 ?assign ?body ?done ?stop
  case assign =>
    intro l x W K hK
    gi_wp2
    exact hK
  case stop =>
    rintro D c pre W _ _ h _
    exact h.elim
  case body =>
    rintro l pre x W ⟨⟨ao, co, hr, hv⟩, hg⟩ hlen
    have hr0 := r7
    have hM := h.grown hr0 hg
    have hA := h1.grown hr0 hpos hg
    have hrA := r4.grown hg hd4
    have hrX := r3.grown hg hd3
    have cX := hrX.cell0
    have cO := hr.cell0
    have fO := hr.frozen0
    have hmm := mkHid (mont_any hM hv hv (Nat.mod_lt _ hm0))
    obtain ⟨E, hE⟩ : ∃ E, E = expo A e pre := ⟨_, rfl⟩
    have hsn := expo_snoc A e pre x
    rw [← hE] at hv hsn hmm
    obtain ⟨bt, hbt⟩ : ∃ bt, bt = bitAt e (x : Int) := ⟨_, rfl⟩
    rw [← hbt] at hsn ⊢
    have HSN := mkHid hsn
    have hsz := hg.size
    clear hsn hE hbt
    by_cases hb1 : bt = 1
    · have t1 : ((bt : Int) == 1) = true := beq_t (n := 1) hb1
      have HB1 := mkHid hb1
      clear hb1
      gi_wp2_with (first
        | (refine ⟨trivial, ?_⟩; gi_at_call 85; refine (callsIn_wide.2 hmm.out).mono ?_; rintro e' w5 ⟨r, hr1, hr2, a5, c5, rfl, hv5, hb5⟩; clear hmm; have st1 := boxStep hr hb5 hv5 hpos; have c3b := (hrX.grown st1.grown hd3).cell0; have c4b := (hrA.grown st1.grown hd4).cell0; have c7b := st1.row.cell0; have f7b := st1.row.frozen0; have c5r := (hr.keep hb5).cell0; have f5r := (hr.keep hb5).frozen0; have hmm2 := mkHid (mont_any (hM.grown hr st1.grown) st1.vec (hA.grown hr hpos st1.grown) (Nat.mod_lt _ hm0)))
        | (refine ⟨trivial, ?_⟩; gi_at_call 85; refine (callsIn_wide.2 hmm2.out).mono ?_; rintro e' w6 ⟨r', hr1', hr2', a6, c6, rfl, hv6, hb6⟩; have c7c := (st1.row.keep hb6).cell0; have f7c := (st1.row.keep hb6).frozen0))
      have st := st1.trans (boxStep st1.row hb6 hv6 hpos)
      refine ⟨st.others, Mid.ofGrown st.grown hz6 hsz, ⟨a6, c6, st.row, ?_⟩, grown_trans hg st.grown⟩
      have e1 := mont_mul hcop.out hr1 hr2
      rw [e1] at hr2'
      rw [HSN.out, if_pos HB1.out, ← mont_mul hcop.out hr1' hr2']
      exact st.vec
    · have t1 : ((bt : Int) == 1) = false := beq_f (n := 1) hb1
      have HB1 := mkHid hb1
      clear hb1
      gi_wp2_with (refine ⟨trivial, ?_⟩; gi_at_call 85; refine (callsIn_wide.2 hmm.out).mono ?_; rintro e' w5 ⟨r, hr1, hr2, a5, c5, rfl, hv5, hb5⟩; have c5r := (hr.keep hb5).cell0; have f5r := (hr.keep hb5).frozen0)
      have st := boxStep hr hb5 hv5 hpos
      refine ⟨st.others, Mid.ofGrown st.grown hz6 hsz, ⟨a5, c5, st.row, ?_⟩, grown_trans hg st.grown⟩
      rw [HSN.out, if_neg HB1.out, ← mont_mul hcop.out hr1 hr2]
      exact st.vec
  case done =>
    rintro D ys W hD rfl ⟨⟨ao, co, hr, hv⟩, hg⟩ hK
    have cO := hr.cell0
    rw [expo_all] at hv
    go_wp2
    refine ⟨by simp, .inl ⟨_, _, rfl, run_takeDeferred hK, ?_⟩⟩
    have hrow : ∀ r, some D = some r → ∃ o : Obj, W.heap[r]? = some o ∧ o.isCells = false := fun r e => by cases e; exact ⟨_, hK, rfl⟩
    refine ⟨_, results_tmp rfl _ _ _, ao, co, rfl, hv.kept (grownBy_putObj' W D (.deferred none)) hrow, ?_⟩
    exact (l10.trans (grown_below hg (by omega) l10.size)).trans (belowK_b (w := w) (Nat.le_refl _) W D _ _ (by have := l10.size; omega) hK rfl rfl)

end Go.Proofs.Ytaeamlldocbeeaa
