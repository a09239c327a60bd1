/- modarith: Few. -/
import Derived.Test.YtaeamlldocbeeaaRangeR
import Derived.Test.YtaeamlldocbeeaaMod5
namespace Go.Proofs.Ytaeamlldocbeeaa
open Go.RowKit Go.Shelf Num

/-- the first twelve primes -/
def fewL : List Nat := [2, 3, 5, 7, 11, 13, 17, 19, 23, 29, 31, 37]

abbrev argEnc (s : Arg) : Array Value := #[.slice s.a s.n s.c]

/-- what Few says of the element that comes behind pre -/
def FewR (pre : List Arg) (s : Arg) (W : World) : Prop := Cn W s.a s.n s.c 10 s.v ∧ pre.length < 12 ∧ s.v = fewL.getD pre.length 0

theorem FewR.put {pre : List Arg} {s : Arg} {W : World} {l : Nat} {o : Obj} (o' : Obj) (h : FewR pre s W) (hl : W.heap[l]? = some o) (hc : o.isCells = false) : FewR pre s (W.putObj l o') :=
  ⟨⟨h.1.sl.kept (grownBy_putObj' W l o') (fun r e => by cases e; exact ⟨o, hl, hc⟩), h.1.lt, h.1.hm⟩, h.2⟩

abbrev fewAgg : Value := .agg #[.int .u64 2, .int .u64 3, .int .u64 5, .int .u64 7, .int .u64 11, .int .u64 13, .int .u64 17, .int .u64 19, .int .u64 23, .int .u64 29, .int .u64 31, .int .u64 37]

theorem fi0 (w : World) : (Instr.index 100 fewAgg (.int .i64 0)).run Try.prog w = .ok (.int .u64 2) w := by kernel_rfl
theorem fi1 (w : World) : (Instr.index 100 fewAgg (.int .i64 1)).run Try.prog w = .ok (.int .u64 3) w := by kernel_rfl
theorem fi2 (w : World) : (Instr.index 100 fewAgg (.int .i64 2)).run Try.prog w = .ok (.int .u64 5) w := by kernel_rfl
theorem fi3 (w : World) : (Instr.index 100 fewAgg (.int .i64 3)).run Try.prog w = .ok (.int .u64 7) w := by kernel_rfl
theorem fi4 (w : World) : (Instr.index 100 fewAgg (.int .i64 4)).run Try.prog w = .ok (.int .u64 11) w := by kernel_rfl
theorem fi5 (w : World) : (Instr.index 100 fewAgg (.int .i64 5)).run Try.prog w = .ok (.int .u64 13) w := by kernel_rfl
theorem fi6 (w : World) : (Instr.index 100 fewAgg (.int .i64 6)).run Try.prog w = .ok (.int .u64 17) w := by kernel_rfl
theorem fi7 (w : World) : (Instr.index 100 fewAgg (.int .i64 7)).run Try.prog w = .ok (.int .u64 19) w := by kernel_rfl
theorem fi8 (w : World) : (Instr.index 100 fewAgg (.int .i64 8)).run Try.prog w = .ok (.int .u64 23) w := by kernel_rfl
theorem fi9 (w : World) : (Instr.index 100 fewAgg (.int .i64 9)).run Try.prog w = .ok (.int .u64 29) w := by kernel_rfl
theorem fi10 (w : World) : (Instr.index 100 fewAgg (.int .i64 10)).run Try.prog w = .ok (.int .u64 31) w := by kernel_rfl
theorem fi11 (w : World) : (Instr.index 100 fewAgg (.int .i64 11)).run Try.prog w = .ok (.int .u64 37) w := by kernel_rfl

theorem few_index (i : Nat) (hi : i < 12) (w : World) : (Instr.index 100 fewAgg (.int .i64 (i : Int))).run Try.prog w = .ok (.int .u64 ((fewL.getD i 0 : Nat) : Int)) w := by
  have h : i = 0 ∨ i = 1 ∨ i = 2 ∨ i = 3 ∨ i = 4 ∨ i = 5 ∨ i = 6 ∨ i = 7 ∨ i = 8 ∨ i = 9 ∨ i = 10 ∨ i = 11 := by omega
  rcases h with rfl | rfl | rfl | rfl | rfl | rfl | rfl | rfl | rfl | rfl | rfl | rfl
  · exact fi0 w
  · exact fi1 w
  · exact fi2 w
  · exact fi3 w
  · exact fi4 w
  · exact fi5 w
  · exact fi6 w
  · exact fi7 w
  · exact fi8 w
  · exact fi9 w
  · exact fi10 w
  · exact fi11 w

theorem few_le (i : Nat) : fewL.getD i 0 ≤ 37 := by
  by_cases hi : i < 12
  · have h : i = 0 ∨ i = 1 ∨ i = 2 ∨ i = 3 ∨ i = 4 ∨ i = 5 ∨ i = 6 ∨ i = 7 ∨ i = 8 ∨ i = 9 ∨ i = 10 ∨ i = 11 := by omega
    rcases h with rfl | rfl | rfl | rfl | rfl | rfl | rfl | rfl | rfl | rfl | rfl | rfl <;> decide
  · have : fewL.getD i 0 = 0 := by
      simp only [List.getD, List.getElem?_eq_none (show fewL.length ≤ i by simp [fewL]; omega)]; rfl
    omega

theorem mfew_any (w : World) : Calls Try.prog 76 #[] w fun e w' => e = .returned (.func (.func 90) #[] #[]) ∧ w = w' := by
  go_enter Try.func76, Try.ntmps76
  go_wp2
  go_ret
  exact ⟨rfl, rfl⟩

attribute [local go_sem] Oper.semAt_some

set_option maxRecDepth 100000 in
set_option maxHeartbeats 1000000 in
theorem few1_in (l : Nat) (J Jx : List Arg → World → Prop) (W : World) (hJ : AbidesFrom W.heap.size J)
    (hY : ∀ pre x W, J pre W → FewR pre x W → YieldAt Fence.wide 2 Try.prog l (argEnc x) W fun e W' => (e = .returned (.bool true) ∧ J (pre ++ [x]) W') ∨ (e = .returned (.bool false) ∧ Jx (pre ++ [x]) W'))
    (h0 : J [] W) :
    CallsIn Fence.wide 3 Try.prog 90 #[.func (.yield l) #[] #[]] W fun e W' => (∃ v, e = .returned v) ∧ ((∃ ys : List Arg, ys.length = 12 ∧ J ys W') ∨ (∃ pre, True ∧ Jx pre W')) := by
  refine callsIn_of_wp Try.func90 rfl trivial ?_ rfl
  simp only [Try.ntmps90, List.size_toArray, List.length_cons, List.length_nil, Nat.reduceAdd, Nat.reduceSub, Array.replicate_succ, Array.replicate_zero, List.push_toArray, List.append_toArray, List.nil_append, List.cons_append]
  gi_wp2
  gi_loopw [5] (fun iv wr => ∃ (i : Nat) (pre : List Arg), i ≤ 12 ∧ iv = .int .i64 i ∧ Hid (pre.length = i) ∧ J pre wr) (fun iv _ => 12 - (intOf iv).toNat)
  case atStart => exact ⟨0, [], by omega, rfl, rfl, h0⟩
  case round =>
    obtain ⟨i, pre, hi, rfl, hp, hj⟩ := hrel
    by_cases hlt : i < 12
    · have t1 : decide ((i : Int) < 12) = true := decide_eq_true (by omega)
      have hix := few_index i hlt
      obtain ⟨x, hx⟩ : ∃ x, x = fewL.getD i 0 := ⟨_, rfl⟩
      have hx37 : x ≤ 37 := by rw [hx]; exact few_le i
      rw [← hx] at hix
      have HX := mkHid hx
      have HIX := mkHid hix
      clear hx
      have hlen : Hid (pre.length < 12) := by show _ < _; rw [hp.out]; exact hlt
      gi_wp2_with (refine ⟨trivial, ?_⟩; gi_at_call 62; refine (callsIn_wide.2 (of_nm x 10 (by omega) ⟨by omega⟩ (by omega) wr)).mono ?_; rintro e' w1 ⟨a1, n1, c1, rfl, hO, hb1⟩; obtain ⟨fn, tmps, assign, body, hy, hR⟩ := hY pre ⟨a1, n1, c1, 10, x⟩ w1 (hJ pre wr w1 none hj (grown_of_below hb1 none) (fun r e => by cases e)) ⟨hO, hlen.out, by show x = _; rw [hp.out]; exact HX.out⟩; dsimp only [argEnc] at hy)
      refine hR.mono ?_
      rintro e W3 (⟨rfl, hJ3⟩ | ⟨rfl, hJx3⟩)
      · gi_wp2
        go_roundw
        case rel => exact ⟨i + 1, pre ++ [⟨a1, n1, c1, 10, x⟩], by omega, by go_num, by show _ = _; rw [List.length_append, hp.out]; rfl, hJ3⟩
        case measure => simp [intOf]; omega
      · gi_wp2
        refine bodyPost_ret (results_none rfl _ _ _) rfl ?_
        exact ⟨⟨_, rfl⟩, .inr ⟨_, trivial, hJx3⟩⟩
    · obtain rfl : i = 12 := by omega
      gi_wp2
      go_end0
      exact ⟨⟨_, rfl⟩, .inl ⟨pre, hp.out, hj⟩⟩

/-- Few's closure hands on the first twelve primes -/
theorem few_seq (w0 : World) : SeqR Fence.wide 3 Try.prog 90 #[] argEnc FewR (fun ys => ys.length = 12) (fun _ => True) w0 := by
  intro l J Jx W _ hJ _ hY h0
  exact few1_in l J Jx W hJ hY h0

end Go.Proofs.Ytaeamlldocbeeaa
