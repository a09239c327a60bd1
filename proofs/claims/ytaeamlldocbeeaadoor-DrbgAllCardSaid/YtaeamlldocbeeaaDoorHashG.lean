/- zbyte: Append32, Append64. -/
import Derived.Test.YtaeamlldocbeeaaDoorHashF
import Derived.StillTailTactics
import Derived.Stop.RegionWithIn
namespace Go.Proofs.YtaeamlldocbeeaaDoor
open Go.RowKit Go.Shelf Num

def b32 (x : Nat) : List Nat := [x / 16777216 % 256, x / 65536 % 256, x / 256 % 256, x % 256]
def b64 (x : Nat) : List Nat := [x / 72057594037927936 % 256, x / 281474976710656 % 256, x / 1099511627776 % 256, x / 4294967296 % 256, x / 16777216 % 256, x / 65536 % 256, x / 256 % 256, x % 256]

set_option maxRecDepth 20000 in
theorem append32_any {a : Option Addr} {n c B x : Nat} {xs : List Nat} {w : World} (h : Own .u8 5 B w a n c xs) (hB : B ≤ w.heap.size) (hn : n ≤ 1099511627776) :
    Calls Tryd.prog 79 #[.slice a n c, .int .u32 (x : Int)] w fun e w' => ∃ a' c', e = .returned (.slice a' (n + 4) c') ∧ Own .u8 5 B w' a' (n + 4) c' (xs ++ b32 x) ∧ Below B w w' := by
  have hblk : Blk (w.alloc (Obj.cells #[.int .u8 ((x : Int) / 16777216 % 256), .int .u8 ((x : Int) / 65536 % 256), .int .u8 ((x : Int) / 256 % 256), .int .u8 ((x : Int) % 256)] 5)) w.heap.size .u8 5 (b32 x) := heap_alloc_new _ _
  have hb0 := below_alloc (Obj.cells #[.int .u8 ((x : Int) / 16777216 % 256), .int .u8 ((x : Int) / 65536 % 256), .int .u8 ((x : Int) / 256 % 256), .int .u8 ((x : Int) % 256)] 5) (Nat.le_refl w.heap.size)
  have h1 := h.keep hb0
  have hB1 : B ≤ (w.alloc (Obj.cells #[.int .u8 ((x : Int) / 16777216 % 256), .int .u8 ((x : Int) / 65536 % 256), .int .u8 ((x : Int) / 256 % 256), .int .u8 ((x : Int) % 256)] 5)).heap.size := Nat.le_trans hB hb0.size
  have hs := hblk.sl 4 rfl (by omega)
  go_enter Tryd.func79, Tryd.ntmps79
  go_wp2_with (at_builtin; refine wpList_app rfl (.tmp 5) (.tmp 17) 22 rfl 5 .u8 1 under_bytes info_u8 B a n c xs rfl h1 _ _ _ _ rfl hs (by omega) (by omega) hB1 ?_; intro a3 c3 w3 ho hb)
  go_ret
  exact ⟨_, _, rfl, ho, (hb0.mono hB).trans hb⟩

set_option maxRecDepth 20000 in
theorem append64_any {a : Option Addr} {n c B x : Nat} {xs : List Nat} {w : World} (h : Own .u8 5 B w a n c xs) (hB : B ≤ w.heap.size) (hn : n ≤ 1099511627776) :
    Calls Tryd.prog 80 #[.slice a n c, .int .u64 (x : Int)] w fun e w' => ∃ a' c', e = .returned (.slice a' (n + 8) c') ∧ Own .u8 5 B w' a' (n + 8) c' (xs ++ b64 x) ∧ Below B w w' := by
  have hblk : Blk (w.alloc (Obj.cells #[.int .u8 ((x : Int) / 72057594037927936 % 256), .int .u8 ((x : Int) / 281474976710656 % 256), .int .u8 ((x : Int) / 1099511627776 % 256), .int .u8 ((x : Int) / 4294967296 % 256), .int .u8 ((x : Int) / 16777216 % 256), .int .u8 ((x : Int) / 65536 % 256), .int .u8 ((x : Int) / 256 % 256), .int .u8 ((x : Int) % 256)] 5)) w.heap.size .u8 5 (b64 x) := heap_alloc_new _ _
  have hb0 := below_alloc (Obj.cells #[.int .u8 ((x : Int) / 72057594037927936 % 256), .int .u8 ((x : Int) / 281474976710656 % 256), .int .u8 ((x : Int) / 1099511627776 % 256), .int .u8 ((x : Int) / 4294967296 % 256), .int .u8 ((x : Int) / 16777216 % 256), .int .u8 ((x : Int) / 65536 % 256), .int .u8 ((x : Int) / 256 % 256), .int .u8 ((x : Int) % 256)] 5) (Nat.le_refl w.heap.size)
  have h1 := h.keep hb0
  have hB1 : B ≤ (w.alloc (Obj.cells #[.int .u8 ((x : Int) / 72057594037927936 % 256), .int .u8 ((x : Int) / 281474976710656 % 256), .int .u8 ((x : Int) / 1099511627776 % 256), .int .u8 ((x : Int) / 4294967296 % 256), .int .u8 ((x : Int) / 16777216 % 256), .int .u8 ((x : Int) / 65536 % 256), .int .u8 ((x : Int) / 256 % 256), .int .u8 ((x : Int) % 256)] 5)).heap.size := Nat.le_trans hB hb0.size
  have hs := hblk.sl 8 rfl (by omega)
  go_enter Tryd.func80, Tryd.ntmps80
  go_wp2_with (at_builtin; refine wpList_app rfl (.tmp 5) (.tmp 29) 22 rfl 5 .u8 1 under_bytes info_u8 B a n c xs rfl h1 _ _ _ _ rfl hs (by omega) (by omega) hB1 ?_; intro a3 c3 w3 ho hb)
  go_ret
  exact ⟨_, _, rfl, ho, (hb0.mono hB).trans hb⟩

/-- copy of a slice, empty or not, over the head of a row -/
theorem run_cpy {P : Program} {w : World} (dT sT ty : TypeId) (elem : TypeId) (hu : P.underlying dT = some (.slice elem)) (hsz : (P.info? elem).map (·.size) = some 1)
    (g dLen dCap : Nat) (sa : Option Addr) (sLen sCap : Nat)
    (k : IntKind) (us ys : List Nat) (hblk : Blk w g k elem us) (hsl : Sl k w sa sLen sCap ys) (hlen : sLen ≤ dLen) (hfit : sLen ≤ us.length) :
    ∃ w', (Builtin.copy_ #[dT, sT] ty #[.slice (some ⟨g, 0, none⟩) dLen dCap, .slice sa sLen sCap]).run P w = .ok (goInt sLen) w' ∧
      Blk w' g k elem (ys ++ us.drop sLen) ∧ w.grownBy w' (some g) := by
  by_cases h0 : sLen = 0
  · subst h0
    obtain rfl : ys = [] := List.eq_nil_of_length_eq_zero hsl.len
    refine ⟨w, run_copy_none w dT sT ty elem _ _ dLen dCap 0 sCap hu hsz (Nat.zero_min _), by simpa using hblk, grown_refl _ _⟩
  · obtain ⟨w', hr, hb, ho⟩ := run_cp (P := P) dT sT ty elem hu hsz g 0 dLen dCap sa sLen sCap k us ys hblk hsl (by omega) hlen (by omega)
    refine ⟨w', hr, by simpa using hb, ?_⟩
    have h1 := ho (w.heap.size)
    have hg := hblk.lt
    have h2 := h1.below 0 (Nat.zero_le _) (Nat.zero_le _) (Nat.zero_le _)
    exact ⟨h2.os, h2.tape, h2.output, h1.size, fun i hi hne => h1.same i hi (by simpa using Ne.symm (fun e => hne (by rw [e]))) (by omega)⟩

theorem size_u8' : (Tryd.prog.info? 5).map (·.size) = some 1 := by kernel_rfl

set_option maxRecDepth 20000 in
set_option maxHeartbeats 1000000 in
theorem put64_any {lb x : Nat} {zs : List Nat} {w : World} (hblk : Blk w lb .u8 5 zs) (hz : zs.length = 8) :
    Calls Tryd.prog 78 #[.slice (some ⟨lb, 0, none⟩) 8 8, .int .u64 (x : Int)] w fun e w' => (∃ v, e = .returned v) ∧ Blk w' lb .u8 5 (b64 x) ∧ w.grownBy w' (some lb) := by
  have hblkd : Blk w.drew lb .u8 5 zs := hblk.drew
  have hgd : w.grownBy w.drew (some lb) := grown_drew (grown_refl _ _)
  have HZ := mkHid hz
  clear hblk
  go_enter Tryd.func78, Tryd.ntmps78
  go_upto_region 0 with (fail)
  go_region_with (go_at_call 80; (with_reducible refine (append64_any (Own.nilOwn _ _ _ _) (Nat.le_refl w.drew.heap.size) (by omega)).mono ?_); rintro e w1 ⟨a', c', rfl, ho, hb⟩; obtain ⟨w5, hcp, hb5, hg5⟩ := run_cpy (P := Tryd.prog) 22 22 3 5 under_bytes size_u8' lb 8 8 a' (0 + 8) c' .u8 _ _ (hblkd.keep hb) ho.sl (by omega) (by rw [HZ.out]; omega); simp only [goInt] at hcp)
  all_goals (
    go_end0
    rw [List.drop_eq_nil_of_le (by rw [HZ.out]; omega), List.append_nil, List.nil_append] at hb5
    exact ⟨⟨_, rfl⟩, hb5, grown_trans hgd (grown_trans (below_grown hb _) hg5)⟩)

end Go.Proofs.YtaeamlldocbeeaaDoor
