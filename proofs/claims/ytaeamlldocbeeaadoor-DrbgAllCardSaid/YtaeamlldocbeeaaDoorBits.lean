/- math/bits: Add64, Sub64, Mul64, Len64, LeadingZeros64 as the program has them. -/
import Derived.Test.YtaeamlldocbeeaaDoorProg
import Derived.Test.YtaeamlldocbeeaaDoorCore
import Derived.Laws.MathBits
import Derived.Laws.Externs
namespace Go.Proofs.YtaeamlldocbeeaaDoor
open Go.RowKit Num

theorem under_nat : Tryd.prog.underlying 31 = some (.slice 47) := by kernel_rfl
theorem under_ref : Tryd.prog.underlying 38 = some (.slice 47) := by kernel_rfl
theorem info_u64 : (Tryd.prog.info? 47).map (fun i => (i.zero, i.size, i.bytes)) = some (some (.int .u64 0), 1, 8) := by kernel_rfl
theorem info_u8 : (Tryd.prog.info? 5).map (fun i => (i.zero, i.size, i.bytes)) = some (some (.int .u8 0), 1, 1) := by kernel_rfl

def sub64Entry : Array Value → Sem Value := fun args => do
  let (x, y, b) ← Extern.MathBitsCarry.three "Sub64" args
  pure (Extern.MathBitsCarry.pair ((x + Extern.MathBitsCarry.m64 - y - b) % Extern.MathBitsCarry.m64) (if x < y + b then 1 else 0))

theorem run_sub64 {P : Program} (x y b : Nat) (hb : b ≤ 1) (w : World) :
    (sub64Entry #[.int .u64 (x : Int), .int .u64 (y : Int), .int .u64 (b : Int)]).run P w =
      .ok (.tuple #[.int .u64 (((x + 18446744073709551616 - y - b) % 18446744073709551616 : Nat) : Int), .int .u64 ((if x < y + b then 1 else 0 : Nat) : Int)]) w := by
  have : b = 0 ∨ b = 1 := by omega
  rcases this with rfl | rfl <;> rfl

theorem add64_run (x y c : Nat) (_hx : x < 18446744073709551616) (_hy : y < 18446744073709551616) (hc : c ≤ 1) (s k : Nat)
    (hs : s = (x + y + c) % 18446744073709551616) (hk : k = (x + y + c) / 18446744073709551616) (w : World) :
    (callFunc 59 #[.int .u64 (x : Int), .int .u64 (y : Int), .int .u64 (c : Int)]).run Tryd.prog w =
      .ok (.value (.tuple #[.int .u64 (s : Int), .int .u64 (k : Int)])) w := by
  rw [run_callFunc_extern (e := add64Entry) Tryd.func59 (by kernel_rfl) (by kernel_rfl) (by kernel_rfl) (by kernel_rfl),
    run_add64 _ _ _ (by omega) (by omega) (by omega) (by omega)]
  subst hs; subst hk
  simp only [Result.andThen]
  congr 6

theorem add64_run0 (x c : Nat) (hx : x < 18446744073709551616) (hc : c ≤ 1) (s k : Nat)
    (hs : s = (x + 0 + c) % 18446744073709551616) (hk : k = (x + 0 + c) / 18446744073709551616) (w : World) :
    (callFunc 59 #[.int .u64 (x : Int), .int .u64 0, .int .u64 (c : Int)]).run Tryd.prog w =
      .ok (.value (.tuple #[.int .u64 (s : Int), .int .u64 (k : Int)])) w := add64_run x 0 c hx (by omega) hc s k hs hk w

theorem add64_run00 (x y : Nat) (hx : x < 18446744073709551616) (hy : y < 18446744073709551616) (s k : Nat)
    (hs : s = (x + y + 0) % 18446744073709551616) (hk : k = (x + y + 0) / 18446744073709551616) (w : World) :
    (callFunc 59 #[.int .u64 (x : Int), .int .u64 (y : Int), .int .u64 0]).run Tryd.prog w =
      .ok (.value (.tuple #[.int .u64 (s : Int), .int .u64 (k : Int)])) w := add64_run x y 0 hx hy (by omega) s k hs hk w

theorem sub64_run (x y b : Nat) (_hx : x < 18446744073709551616) (_hy : y < 18446744073709551616) (hb : b ≤ 1) (s k : Nat)
    (hs : s = (x + 18446744073709551616 - y - b) % 18446744073709551616) (hk : k = if x < y + b then 1 else 0) (w : World) :
    (callFunc 60 #[.int .u64 (x : Int), .int .u64 (y : Int), .int .u64 (b : Int)]).run Tryd.prog w =
      .ok (.value (.tuple #[.int .u64 (s : Int), .int .u64 (k : Int)])) w := by
  rw [run_callFunc_extern (e := sub64Entry) Tryd.func60 (by kernel_rfl) (by kernel_rfl) (by kernel_rfl) (by kernel_rfl),
    run_sub64 _ _ _ hb]
  subst hs; subst hk
  rfl

theorem sub64_run0 (x b : Nat) (hx : x < 18446744073709551616) (hb : b ≤ 1) (s k : Nat)
    (hs : s = (x + 18446744073709551616 - 0 - b) % 18446744073709551616) (hk : k = if x < 0 + b then 1 else 0) (w : World) :
    (callFunc 60 #[.int .u64 (x : Int), .int .u64 0, .int .u64 (b : Int)]).run Tryd.prog w =
      .ok (.value (.tuple #[.int .u64 (s : Int), .int .u64 (k : Int)])) w := sub64_run x 0 b hx (by omega) hb s k hs hk w

theorem and32_nat (x : Nat) (h : x < 18446744073709551616) : bits .and .u64 (x : Int) 4294967295 = ((x % 4294967296 : Nat) : Int) := by
  rw [and_low32 _ (by omega) (by omega)]; omega

theorem ret2 {k l : IntKind} {a b c d : Int} (h1 : a = c) (h2 : b = d) : Ending.returned (.tuple #[.int k a, .int l b]) = Ending.returned (.tuple #[.int k c, .int l d]) := by
  rw [h1, h2]

theorem ret1 {k : IntKind} {a b : Int} (h1 : a = b) : Ending.returned (.int k a) = Ending.returned (.int k b) := by rw [h1]

/-- the two halves of a product -/
theorem mul64_any (x y : Nat) (hx : x < 18446744073709551616) (hy : y < 18446744073709551616) (w : World) :
    Calls Tryd.prog 52 #[.int .u64 (x : Int), .int .u64 (y : Int)] w fun e w' =>
      e = .returned (.tuple #[.int .u64 ((x * y / 18446744073709551616 : Nat) : Int), .int .u64 ((x * y % 18446744073709551616 : Nat) : Int)]) ∧ w = w' := by
  have h1 := and32_nat x hx
  have h2 := and32_nat y hy
  have h3 : ∀ z : Int, bits .and .u64 (IntKind.u64.wrap z) 4294967295 = IntKind.u64.wrap z % 4294967296 := by
    intro z
    rw [IntKind.wrap_u64]
    exact and_low32 _ (by omega) (by omega)
  go_enter Tryd.func52, Tryd.ntmps52
  go_wp2
  go_ret2
  refine ⟨ret2 ?_ ?_, rfl⟩
  · have := mul64_arith (x : Int) (y : Int) (by omega) (by omega) (by omega) (by omega)
    simp only [IntKind.wrap_u64]
    rw [Int.natCast_ediv, Int.natCast_mul]
    exact this
  · rw [IntKind.wrap_u64]; simp

theorem len_tail (x b : Nat) (h : x / 2 ^ b ≠ 0 ∨ b = 0) : b + bitLen (x / 2 ^ b) = bitLen x := by
  rcases h with h | rfl
  · exact (bitLen_shift x b h).symm
  · simp

theorem wrap64_nat (k : Int) (h : 0 ≤ k) (h' : k < 9223372036854775808) : wrap64 k = k := by unfold wrap64; omega

theorem retI {k : IntKind} {a : Value} {b : Int} (h1 : a = .int k b) : Ending.returned a = Ending.returned (.int k b) := by rw [h1]

theorem len_close (x : Int) (b y : Nat) (hb : b ≤ 56) (hy : y < 256) (e : x.toNat / 2 ^ b = y) (h : y ≠ 0 ∨ b = 0) :
    wrap64 ((b : Int) + wrap64 ((bitLen y : Nat) : Int)) = ((bitLen x.toNat : Nat) : Int) := by
  have h8 := bitLen_le8 y hy
  have := len_tail x.toNat b (by rw [e]; exact h)
  rw [e] at this
  unfold wrap64
  omega

theorem len_close0 (x : Int) (y : Nat) (hy : y < 256) (e : x.toNat = y) :
    wrap64 (wrap64 ((bitLen y : Nat) : Int)) = ((bitLen x.toNat : Nat) : Int) := by
  have h8 := bitLen_le8 y hy
  rw [e]
  unfold wrap64
  omega

set_option maxRecDepth 100000 in
set_option maxHeartbeats 1000000 in
theorem len64_int (x : Int) (h0 : 0 ≤ x) (h1 : x ≤ 18446744073709551615) (w : World) :
    Calls Tryd.prog 39 #[.int .u64 x] w fun e w' => e = .returned (.int .i64 (bitLen x.toNat : Nat)) ∧ w = w' := by
  go_enter Tryd.func39, Tryd.ntmps39
  go_wp2
  all_goals (go_ret; refine ⟨ret1 ?_, rfl⟩)
  all_goals rw [len8tab_get]
  · exact len_close x 56 _ (by omega) (by omega) (by omega) (by omega)
  · exact len_close x 48 _ (by omega) (by omega) (by omega) (by omega)
  · exact len_close x 40 _ (by omega) (by omega) (by omega) (by omega)
  · exact len_close x 32 _ (by omega) (by omega) (by omega) (by omega)
  · exact len_close x 24 _ (by omega) (by omega) (by omega) (by omega)
  · exact len_close x 16 _ (by omega) (by omega) (by omega) (by omega)
  · exact len_close x 8 _ (by omega) (by omega) (by omega) (by omega)
  · exact len_close0 x _ (by omega) rfl

/-- bits.Len64: how many bits a number has -/
theorem len64_any (x : Nat) (hx : x < 18446744073709551616) (w : World) :
    Calls Tryd.prog 39 #[.int .u64 (x : Int)] w fun e w' => e = .returned (.int .i64 (bitLen x : Nat)) ∧ w = w' := by
  have := len64_int (x : Int) (by omega) (by omega) w
  simpa using this

theorem bitLen_le64 (x : Nat) (hx : x < 18446744073709551616) : bitLen x ≤ 64 := by
  unfold bitLen
  split
  · omega
  · rename_i h0
    have := (Nat.log2_lt h0).2 (show x < 2 ^ 64 from hx)
    omega

theorem lz64_any (x : Nat) (hx : x < 18446744073709551616) (w : World) :
    Calls Tryd.prog 44 #[.int .u64 (x : Int)] w fun e w' => e = .returned (.int .i64 ((64 - bitLen x : Nat) : Int)) ∧ w = w' := by
  have hl := bitLen_le64 x hx
  go_enter Tryd.func44, Tryd.ntmps44
  go_wp2_with (go_at_call 39; refine (len64_any x hx _).mono ?_; rintro e w' ⟨rfl, rfl⟩)
  go_ret
  refine ⟨?_, rfl⟩
  exact ret1 (by omega)

end Go.Proofs.YtaeamlldocbeeaaDoor
