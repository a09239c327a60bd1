/- baileylaw2: begun answers true. -/
import Derived.Test.YtaeamlldocbeeaaRmod5
import Derived.Test.YtaeamlldocbeeaaMod8
namespace Go.Proofs.Ytaeamlldocbeeaa
open Go.RowKit Go.Shelf Num

theorem exp_any {w : World} {a1 a2 a3 : Option Addr} {n1 c1 n2 c2 n3 c3 m k l u v x : Nat} (h : Nm w a1 n1 c1 m u) (h' : Nm w a2 n2 c2 k v) (h'' : Nm w a3 n3 c3 l x) (hx : 0 < x) (hm : mayB [u, v, x] = true) (hl : l ≤ 400000) :
    Calls Try.prog 52 #[.slice a1 n1 c1, .slice a2 n2 c2, .slice a3 n3 c3] w (GivesCB w true l (u ^ v % x)) := by
  by_cases hp : x % 2 = 1 → x = 1
  · exact exp_plain h h' h'' hx hp hm hl
  · exact exp_mont h h' h'' (by omega) (by omega) hm hl

theorem Cn.one {w : World} {a : Option Addr} {n c m v : Nat} (h : Cn w a n c m v) (h0 : v ≠ 0) (hW : v < 18446744073709551616) : n = 1 ∧ Sl .u64 w a 1 c [v] := by
  have h1 := h.sl
  rw [dig_lt_base 18446744073709551616 (by omega) hW h0] at h1
  obtain rfl : n = 1 := h1.len.symm
  exact ⟨rfl, h1⟩

theorem exp357 (w : World) : Calls Try.prog 52 #[.slice (some ⟨w.heap.size, 0, none⟩) 1 1, .slice (some ⟨w.heap.size + 1, 0, none⟩) 1 1, .slice (some ⟨w.heap.size + 2, 0, none⟩) 1 1]
    (((w.alloc (Obj.cells #[.int .u64 3] 54)).alloc (Obj.cells #[.int .u64 5] 54)).alloc (Obj.cells #[.int .u64 7] 54)) fun e w' =>
    ∃ a c, e = .returned (.tuple #[.slice a 1 c, .bool true]) ∧ Sl .u64 w' a 1 c [5] ∧ Below w.heap.size w w' := by
  have h1 := nm_one w 3 10 (by omega) (by omega) (by omega)
  have h2 := nm_one (w.alloc (Obj.cells #[.int .u64 3] 54)) 5 10 (by omega) (by omega) (by omega)
  have h3 := nm_one ((w.alloc (Obj.cells #[.int .u64 3] 54)).alloc (Obj.cells #[.int .u64 5] 54)) 7 10 (by omega) (by omega) (by omega)
  have hb : Below w.heap.size w (((w.alloc (Obj.cells #[.int .u64 3] 54)).alloc (Obj.cells #[.int .u64 5] 54)).alloc (Obj.cells #[.int .u64 7] 54)) :=
    ((below_alloc _ (Nat.le_refl _)).alloc (by rw [World.size_alloc]; omega) _).alloc (by rw [World.size_alloc, World.size_alloc]; omega) _
  rw [World.size_alloc] at h2
  rw [World.size_alloc, World.size_alloc] at h3
  refine (exp_any ((h1.alloc _).alloc _) (h2.alloc _) h3 (by omega) (by decide +kernel) (by omega)).mono ?_
  rintro e w' ⟨a, n, c, rfl, hc, hb'⟩
  obtain ⟨rfl, hs⟩ := Cn.one hc (by decide) (by decide)
  exact ⟨a, c, rfl, hs, hb.trans (hb'.mono hb.size)⟩

theorem invL37 : invL 7 7 (3 % 7) 0 1 = (1, 5) := by
  rw [invL_pos _ _ _ _ _ (by decide), invL_pos _ _ _ _ _ (by decide), show 7 % (3 % 7) = 1 from rfl, show 3 % 7 % 1 = 0 from rfl, invL_zero]

theorem inv37 (w : World) : Calls Try.prog 44 #[.slice (some ⟨w.heap.size, 0, none⟩) 1 1, .slice (some ⟨w.heap.size + 1, 0, none⟩) 1 1]
    ((w.alloc (Obj.cells #[.int .u64 3] 54)).alloc (Obj.cells #[.int .u64 7] 54)) fun e w' =>
    ∃ a c, e = .returned (.tuple #[.slice a 1 c, .bool true]) ∧ Sl .u64 w' a 1 c [5] ∧ Below w.heap.size w w' := by
  have h1 := nm_one w 3 10 (by omega) (by omega) (by omega)
  have h2 := nm_one (w.alloc (Obj.cells #[.int .u64 3] 54)) 7 10 (by omega) (by omega) (by omega)
  have hb : Below w.heap.size w ((w.alloc (Obj.cells #[.int .u64 3] 54)).alloc (Obj.cells #[.int .u64 7] 54)) :=
    (below_alloc _ (Nat.le_refl _)).alloc (by rw [World.size_alloc]; omega) _
  rw [World.size_alloc] at h2
  refine (inv_any (h1.alloc _) h2 (by omega) (by decide +kernel) (by omega)).mono ?_
  rintro e w' hg
  rw [invL37] at hg
  obtain ⟨a, n, c, rfl, hc, hb'⟩ := hg.1 rfl
  obtain ⟨rfl, hs⟩ := Cn.one hc (by decide) (by decide)
  exact ⟨a, c, rfl, hs, hb.trans (hb'.mono hb.size)⟩

theorem isNext83 : IsNext 8 3 11 := by
  refine ⟨by decide, by decide, by decide +kernel, ?_⟩
  intro q h1 h2 h3
  have : startP 8 = 9 := by decide
  obtain rfl : q = 9 := by omega
  decide +kernel

theorem next83 (w : World) : Calls Try.prog 49 #[.slice (some ⟨w.heap.size, 0, none⟩) 1 1, .slice (some ⟨w.heap.size + 1, 0, none⟩) 1 1]
    ((w.alloc (Obj.cells #[.int .u64 8] 54)).alloc (Obj.cells #[.int .u64 3] 54)) fun e w' =>
    ∃ a c, e = .returned (.tuple #[.slice a 1 c, .bool true]) ∧ Sl .u64 w' a 1 c [11] ∧ Below w.heap.size w w' := by
  have h1 := nm_one w 8 10 (by omega) (by omega) (by omega)
  have h2 := nm_one (w.alloc (Obj.cells #[.int .u64 8] 54)) 3 10 (by omega) (by omega) (by omega)
  have hb : Below w.heap.size w ((w.alloc (Obj.cells #[.int .u64 8] 54)).alloc (Obj.cells #[.int .u64 3] 54)) :=
    (below_alloc _ (Nat.le_refl _)).alloc (by rw [World.size_alloc]; omega) _
  rw [World.size_alloc] at h2
  refine (next_any (h1.alloc _) h2 (by decide) (by decide) (by omega)).mono ?_
  rintro e w' ⟨p, hp, _, a, n, c, rfl, hc, hb'⟩
  obtain rfl := hp.unique isNext83
  obtain ⟨rfl, hs⟩ := Cn.one hc (by decide) (by decide)
  exact ⟨a, c, rfl, hs, hb.trans (hb'.mono hb.size)⟩

theorem strong2047 (w : World) : Calls Try.prog 47 #[.slice (some ⟨w.heap.size, 0, none⟩) 1 1, .slice (some ⟨w.heap.size + 1, 0, none⟩) 1 1]
    ((w.alloc (Obj.cells #[.int .u64 2047] 54)).alloc (Obj.cells #[.int .u64 2] 54)) fun e w' => e = .returned (.bool true) ∧ Below w.heap.size w w' := by
  have h1 := nm_one w 2047 11 (by omega) (by omega) (by omega)
  have h2 := nm_one (w.alloc (Obj.cells #[.int .u64 2047] 54)) 2 10 (by omega) (by omega) (by omega)
  have hb : Below w.heap.size w ((w.alloc (Obj.cells #[.int .u64 2047] 54)).alloc (Obj.cells #[.int .u64 2] 54)) :=
    (below_alloc _ (Nat.le_refl _)).alloc (by rw [World.size_alloc]; omega) _
  rw [World.size_alloc] at h2
  refine (strong_any (h1.alloc _) h2 (by omega)).mono ?_
  rintro e w' ⟨rfl, hb'⟩
  rw [show strongB 2047 2 = true by decide +kernel]
  exact ⟨rfl, hb.trans (hb'.mono hb.size)⟩

theorem prob2047 (w : World) : Calls Try.prog 77 #[.slice (some ⟨w.heap.size, 0, none⟩) 1 1, .func (.func 90) #[] #[]]
    (w.alloc (Obj.cells #[.int .u64 2047] 54)) fun e w' => e = .returned (.bool false) ∧ Below w.heap.size w w' := by
  have h1 := nm_one w 2047 11 (by omega) (by omega) (by omega)
  have hb : Below w.heap.size w (w.alloc (Obj.cells #[.int .u64 2047] 54)) := below_alloc _ (Nat.le_refl _)
  refine (prob_any h1 (by omega)).mono ?_
  rintro e w' ⟨rfl, hb'⟩
  rw [show probB 2047 = false by decide +kernel]
  exact ⟨rfl, hb.trans (hb'.mono hb.size)⟩

attribute [local go_sem] Oper.semAt_some

set_option maxRecDepth 100000 in
set_option maxHeartbeats 4000000 in
theorem begun2_any (w : World) : Calls Try.prog 40 #[] w (GivesBool w true) := by
  have qT : ∀ (w : World) (f : Fn) (ts lb : Array Value), (binOp .eql 86 (.func f ts lb) .nilFunc).run Try.prog w = .ok (.bool false) w := fun w f ts lb => run_eql_func_nil w 86 _ _ _ f ts lb under_seq1
  refine (callsIn_wide (n := 4)).1 ?_
  refine callsIn_of_wp_marks Try.func40 rfl trivial ?_ rfl
  simp only [Try.ntmps40, List.size_toArray, List.length_nil, Nat.reduceSub, Array.replicate_succ, Array.replicate_zero, List.push_toArray, List.append_toArray, List.nil_append, List.cons_append]
  refine wpIn_wide.2 ?_
  go_upto_region 8 with (first
    | (go_at_call 52; refine (exp357 w).mono ?_; rintro e w1 ⟨a1, c1, rfl, hx, hb1⟩)
    | (go_at_call 44; refine (inv37 w1).mono ?_; rintro e w2 ⟨a2, c2, rfl, hi, hb2⟩)
    | (go_at_call 49; refine (next83 w2).mono ?_; rintro e w3 ⟨a3, c3, rfl, hp, hb3⟩)
    | (go_at_call 76; (with_reducible refine (mfew_any _).mono ?_); rintro e w' ⟨rfl, rfl⟩))
  obtain ⟨w0, b8, hW0, hb8, r8, l8, z8⟩ := boxed w3 3 (.int .i64 0)
  rw [← hW0, ← hb8]
  have hz8 : w3.heap.size ≤ b8 := by omega
  have l3 := hb1.trans ((hb2.trans (hb3.mono hb2.size)).mono hb1.size)
  clear hW0 hb8
  go_wp2
  refine (wpIn_wide (n := 4)).1 ?_
  refine wpIn_rangeR (n := 4) (encs := argEnc) (R := FewR) (S := fun ys => ys.length = 12) (Sp := fun _ => True) rfl (by omega) (gf := 90) (lb := #[]) rfl trivial (enters_of Try.func90 (by kernel_rfl) rfl)
    (few_seq w0) (fun _ => rfl) (fun pre x W l o o' hx hl hc => hx.put o' hl hc)
    (fun pre W => (Row W b8 3 [.int .i64 (pre.length : Int)] ∧ pre.length ≤ 12) ∧ w0.grownBy W (some b8))
    (fun _ _ _ => False)
    (OwnFrom.and (fun s X Y row hs hg hr => ⟨hs.1.kept hg (fun r e => (hr r e).2), hs.2⟩) (ownFrom_grown (Nat.le_refl _)))
    (fun _ _ _ _ _ hs _ _ => hs)
    ⟨⟨r8, by simp⟩, grown_refl _ _⟩ ?a1 ?assign ?body ?done ?stop
  case assign =>
    intro l x W K hK
    gi_wp2
    exact hK
  case stop =>
    rintro D c pre W _ _ h _
    exact h.elim
  case body =>
    rintro l pre x W ⟨⟨hr, hlen⟩, hg⟩ ⟨_, hlt, _⟩
    have c8 := hr.cell0
    have f8 := hr.frozen0
    have hw : wrap64 ((pre.length : Int) + 1) = ((pre ++ [x]).length : Int) := by
      rw [IntWalk.wrap64_in _ (by omega)]; simp
    have e1 : ((pre ++ [x]).length : Int) = (pre.length : Int) + 1 := by simp
    have E1 := mkHid e1
    clear e1 hw
    gi_wp2
    have hg2 := grown_set (grown_refl W (some b8)) 0 (.int .i64 ((pre.length : Int) + 1))
    refine ⟨KeepsOthers.of_grownBy hg2 hr.cellsAt, ⟨?_, by rw [List.length_append, List.length_singleton]; omega⟩, grown_trans hg hg2⟩
    rw [E1.out]
    exact hr.set0 _
  case done =>
    rintro D ys W hD hlen ⟨⟨hr, _⟩, hg⟩ hK
    rw [hlen] at hr
    have c8 : W.cell? ⟨b8, 0, none⟩ = some (.int .i64 12) := hr.cell0
    have l3W : Below w3.heap.size w3 W := l8.trans (grown_below hg hz8 l8.size)
    obtain ⟨bx, ox, rfl⟩ := hx.addr (by omega)
    obtain ⟨bi, oi, rfl⟩ := hi.addr (by omega)
    obtain ⟨bp, op, rfl⟩ := hp.addr (by omega)
    have qx : W.cell? ⟨bx, ox, none⟩ = some (.int .u64 5) := (((hx.keep hb2).keep hb3).keep l3W).cell 0 (by simp)
    have qi : W.cell? ⟨bi, oi, none⟩ = some (.int .u64 5) := ((hi.keep hb3).keep l3W).cell 0 (by simp)
    have qp : W.cell? ⟨bp, op, none⟩ = some (.int .u64 11) := (hp.keep l3W).cell 0 (by simp)
    have i0 : (0 : Int) < 1 := by omega
    have lWT := l3.trans (l3W.mono l3.size)
    clear hr hlen
    go_wp2_with (first
      | (go_at_call 47; refine (strong2047 W).mono ?_; rintro e w5 ⟨rfl, hb5⟩)
      | (go_at_call 76; (with_reducible refine (mfew_any _).mono ?_); rintro e w' ⟨rfl, rfl⟩)
      | (go_at_call 77; refine (prob2047 w5).mono ?_; rintro e w6 ⟨rfl, hb6⟩))
    have hK6 : w6.heap[D]? = some (.deferred (some [])) := by
      have lb := hb5.trans (hb6.mono hb5.size)
      exact (lb.block D (Array.getElem?_eq_some_iff.1 hK).1).trans hK
    refine ⟨by simp, .inl ⟨_, _, rfl, run_takeDeferred hK6, ?_⟩⟩
    exact ⟨_, results_tmp rfl _ _ _, rfl, (lWT.trans ((hb5.trans (hb6.mono hb5.size)).mono lWT.size)).trans (belowK_b (w := w) (Nat.le_refl _) w6 D _ _ (by have := l3.size; have := l8.size; omega) hK6 rfl rfl)⟩

end Go.Proofs.Ytaeamlldocbeeaa
