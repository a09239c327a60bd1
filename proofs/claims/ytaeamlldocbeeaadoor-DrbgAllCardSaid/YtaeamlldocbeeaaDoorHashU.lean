/- baileylaw4: begun; Short; All. -/
import Derived.Test.YtaeamlldocbeeaaDoorHashT
import Derived.Lib.SlBytesConst
namespace Go.Proofs.YtaeamlldocbeeaaDoor
open Go.RowKit Go.Shelf Num

theorem short_any {n c m : Nat} {a : Option Addr} {xs : List Nat} {w : World} (h : Sl .u8 w a n c xs) (hd : Dg 256 xs) (hm : m ≤ 1000000) :
    Calls Tryd.prog 5 #[.slice a n c, .int .i64 (m : Int)] w fun e w' => ∃ n', e = .returned (.slice a n' c) ∧ Sl .u8 w a n' c (xs.take m) ∧ Dg 256 (xs.take m) ∧ n' ≤ m ∧ w = w' := by
  have hle := h.le
  have hcap := h.cap
  by_cases hlt : m < n
  · have t1 : decide ((n : Int) > (m : Int)) = true := decide_eq_true (by omega)
    have i1 : (m : Int) ≤ (c : Int) := by omega
    go_enter Tryd.func5, Tryd.ntmps5
    go_wp2
    go_ret
    exact ⟨m, rfl, h.take m (by omega), hd.take m, Nat.le_refl _, rfl⟩
  · have t1 : decide ((n : Int) > (m : Int)) = false := decide_eq_false (by omega)
    have e1 : xs.take m = xs := List.take_of_length_le (by rw [h.len]; omega)
    rw [e1]
    clear e1
    go_enter Tryd.func5, Tryd.ntmps5
    go_wp2
    go_ret
    exact ⟨n, rfl, h, hd, by omega, rfl⟩

theorem all_any {db : Nat} {w : World} :
    Calls Tryd.prog 18 #[.pointer (some ⟨db, 0, none⟩)] w fun e w' => ∃ bx, e = .returned (.func (.func 32) #[] #[.pointer (some ⟨bx, 0, none⟩)]) ∧ Below w.heap.size w w' := by
  go_enter Tryd.func18, Tryd.ntmps18
  go_wp2
  go_ret
  exact ⟨_, rfl, below_alloc _ (Nat.le_refl _)⟩

theorem tape_dg : Dg 256 [116, 97, 112, 101] := by
  intro x hx
  simp only [List.mem_cons, List.not_mem_nil, or_false] at hx
  omega

theorem ten_nm (w : World) : Nm (w.alloc (Obj.cells #[.int .u64 10] 47)) (some ⟨w.heap.size, 0, none⟩) 1 1 64 10 :=
  ⟨⟨[10], (Blk.new1 w .u64 47 10).sl 1 rfl (by omega), one_dg 10 (by omega), one_val 10⟩, ⟨by decide⟩, by omega, by omega⟩

theorem Cn.short {w : World} {a : Option Addr} {n c m v : Nat} (h : Cn w a n c m v) (hv : v < 18446744073709551616) : n ≤ 1 := by
  have h1 := h.sl.len
  have := (dig_length_le 18446744073709551616 (by omega) 1 v).2 (by rw [Nat.pow_one]; exact hv)
  omega

theorem run_neq_func_nil {P : Program} (w : World) (t : TypeId) (A1 A2 : Array TypeId) (v : Bool) (f : Fn) (ts lb : Array Value) (h : P.underlying t = some (.func A1 A2 v)) :
    (binOp .neq t (.func f ts lb) .nilFunc).run P w = .ok (.bool true) w := by
  have h1 : ∀ d, (Op.equalIn (d + 1) t (.func f ts lb) .nilFunc).run P w = .ok false w := by
    intro d
    simp [Op.equalIn, run_underlying h]
  simp only [binOp]
  simp [Op.equal, Op.maxDepth, h1 9999]

theorem sl_marked (w : World) (T : TypeId) (xs : List Nat) (n : Nat) (fr : Nat × Nat) (hn : xs.length = n) (hc : n ≤ 9223372036854775807) : Sl .u8 (w.alloc (.cells (U .u8 xs).toArray T fr)) (some ⟨w.heap.size, 0, none⟩) n n xs := by
  refine ⟨hn, Nat.le_refl _, hc, fun e => (by cases e), fun p e _ => (by cases e; rfl), fun i hi => ⟨_, 0, rfl, ?_⟩⟩
  have h := World.alloc_heap_new w (.cells (U .u8 xs).toArray T fr)
  unfold World.cell?
  simp only [h]
  simp [U, hi]

set_option maxRecDepth 100000 in
set_option maxHeartbeats 2000000 in
theorem begun4_any {w : World} (hk : KTab w) : Calls Tryd.prog 4 #[] w (GivesBool w true) := by
  have qT : ∀ (w : World) (f : Fn) (ts lb : Array Value), (binOp .neq 49 (.func f ts lb) .nilFunc).run Tryd.prog w = .ok (.bool true) w := by
    intro w f ts lb
    have h : ∃ A1 A2 v, Tryd.prog.underlying 49 = some (.func A1 A2 v) := by
      have h : (match Tryd.prog.underlying 49 with | some (.func _ _ _) => true | _ => false) = true := by kernel_rfl
      split at h
      case h_1 A1 A2 v e => exact ⟨A1, A2, v, e⟩
      case h_2 => cases h
    obtain ⟨A1, A2, v, h⟩ := h
    exact run_neq_func_nil w _ A1 A2 v f ts lb h
  have qC := Lib.run_convert_bytes_const (P := Tryd.prog) w 22 5 #[.int .u8 116, .int .u8 97, .int .u8 112, .int .u8 101] 4 4 under_bytes under_u8
  have hsl : Sl .u8 (w.alloc (.cells #[.int .u8 116, .int .u8 97, .int .u8 112, .int .u8 101] 5 (4, 5))) (some ⟨w.heap.size, 0, none⟩) 4 4 [116, 97, 112, 101] := sl_marked w 5 [116, 97, 112, 101] 4 (4, 5) rfl (by omega)
  have hb0 : Below w.heap.size w (w.alloc (.cells #[.int .u8 116, .int .u8 97, .int .u8 112, .int .u8 101] 5 (4, 5))) := below_alloc _ (Nat.le_refl w.heap.size)
  have hN := mkHid (pnew_any hsl tape_dg (by omega) (hk.keep hb0))
  have hk0 := hk.keep hb0
  clear hsl
  simp only [List.size_toArray, List.length_cons, List.length_nil, Nat.reduceAdd] at qC
  go_enter Tryd.func4, Tryd.ntmps4
  go_upto_region 4 with (go_at_call 6; (with_reducible refine hN.out.mono ?_); rintro e w1 ⟨db, rfl, hd1, hB1, hb1⟩)
  have hk1 := hk0.keep hb1
  have hbw1 := hb0.trans (hb1.mono hb0.size)
  have hY : Hid (Calls Tryd.prog 8 #[.pointer (some ⟨db, 0, none⟩), .int .i64 5] w1 _) := mkHid (pbytes_any (n := 5) hd1 (by omega) (by omega) (by omega) hk1)
  clear hN qC
  go_upto_region 5 with (go_at_call 8; (with_reducible refine hY.out.mono ?_); rintro e w2 ⟨a2, c2, rfl, _, hd2, hg2⟩)
  have hk2 : KTab w2 := by
    obtain ⟨_, _, _, _, hd⟩ := hd1
    exact hd.kt hk1 hg2
  generalize bytesK (drUp Z32 (ones 32) [116, 97, 112, 101]).1 (drUp Z32 (ones 32) [116, 97, 112, 101]).2 5 = K2 at *
  generalize bytesV (drUp Z32 (ones 32) [116, 97, 112, 101]).1 (drUp Z32 (ones 32) [116, 97, 112, 101]).2 5 = V2 at *
  have hb2 := below_alloc (Obj.cells #[.int .u64 10] 47) (Nat.le_refl w2.heap.size)
  have hL := mkHid (pbelow_any (hd2.keep hb2) (ten_nm w2) (by omega) (by omega) (by omega) (hk2.keep hb2))
  have hwdb : w.heap.size ≤ db := Nat.le_trans hb0.size hB1
  have hbw2 := hbw1.trans (grown_below hg2 hwdb hbw1.size)
  clear hY hd1 hd2 hb1 hg2
  go_upto_region 6 with (go_at_call 11; (with_reducible refine hL.out.mono ?_); rintro e w3 ⟨a3, n3, c3, rfl, hr3, hd3, hg3⟩)
  have hn3 := hr3.short (Nat.lt_trans (Nat.mod_lt _ (by omega)) (by omega))
  have hbw3 : Below w.heap.size w w3 := (hbw2.alloc hbw2.size _).trans (grown_below hg3 hwdb (hbw2.alloc hbw2.size _).size)
  clear hL hr3 hg3
  obtain ⟨ka, kc, va, vc, hd3⟩ := hd3
  have hn3' : (n3 : Int) ≤ 1 := by omega
  have t3 : decide ((n3 : Int) ≤ 1) = true := decide_eq_true hn3'
  go_wp2_with (first
    | (go_at_call 18; (with_reducible refine (all_any).mono ?_); rintro e w4 ⟨bx, rfl, hb4⟩; have hLf := mkHid (left_any (hd3.keep hb4)))
    | (go_at_call 17; (with_reducible refine hLf.out.mono ?_); rintro e w5 ⟨rfl, rfl⟩))
  go_ret
  exact ⟨rfl, hbw3.trans (hb4.mono hbw3.size)⟩

end Go.Proofs.YtaeamlldocbeeaaDoor
