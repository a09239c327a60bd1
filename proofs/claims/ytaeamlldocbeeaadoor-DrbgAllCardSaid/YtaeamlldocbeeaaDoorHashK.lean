/- bytes.Repeat of one byte, 32 times. -/
import Derived.Test.YtaeamlldocbeeaaDoorHashJ
import Derived.Lib.MakeNoZero
namespace Go.Proofs.YtaeamlldocbeeaaDoor
open Go.RowKit Go.Shelf Num

theorem bmul_any (w : World) : Calls Tryd.prog 33 #[.int .u64 1, .int .u64 32] w fun e w' => e = .returned (.tuple #[.int .u64 0, .int .u64 32]) ∧ w = w' := by
  have MM : Hid (∀ w, Calls Tryd.prog 52 #[.int .u64 1, .int .u64 32] w fun e w' => e = .returned (.tuple #[.int .u64 0, .int .u64 32]) ∧ w = w') := fun w => mul64_any 1 32 (by omega) (by omega) w
  go_enter Tryd.func33, Tryd.ntmps33
  go_wp2_with (go_at_call 52; (with_reducible refine (MM.out _).mono ?_); rintro e w' ⟨rfl, rfl⟩)
  go_ret2
  exact ⟨rfl, rfl⟩

/-- a slice is copied behind what a row of one's own holds -/
theorem own_copy {P : Program} {w : World} (dT sT ty : TypeId) (elem : TypeId) (hu : P.underlying dT = some (.slice elem)) (hsz : (P.info? elem).map (·.size) = some 1)
    {k : IntKind} {B b n c m dLen dCap sCap : Nat} {sa : Option Addr} {xs ys : List Nat} (h : Own k elem B w (some ⟨b, 0, none⟩) n c xs) (hs : Sl k w sa m sCap ys) (h0 : 0 < m) (hc : n + m ≤ c) (hd : m ≤ dLen) :
    ∃ w', (Builtin.copy_ #[dT, sT] ty #[.slice (some ⟨b, n, none⟩) dLen dCap, .slice sa m sCap]).run P w = .ok (goInt m) w' ∧
      Own k elem B w' (some ⟨b, 0, none⟩) (n + m) c (xs ++ ys) ∧ w.grownBy w' (some b) := by
  have hl := h.len
  have hyl := hs.len
  obtain ⟨bs, os, rfl⟩ := hs.addr h0
  rcases h.row with ⟨e, _⟩ | ⟨b', zs, e, hB, hlen, hcap, hr⟩
  · cases e
  · cases e
    have hrun := run_copy_row (P := P) w dT sT ty elem b n dLen dCap ⟨bs, os, none⟩ m sCap (U k xs ++ zs).toArray elem (U k ys) hu hsz hr
      (by rw [U_length, hyl]; exact (Nat.min_eq_left hd).symm)
      (fun j v hj => by
        rw [Addr.add_lit]
        rw [U_get] at hj
        obtain ⟨y, hy, rfl⟩ := Option.map_eq_some_iff.1 hj
        obtain ⟨h1, rfl⟩ := List.getElem?_eq_some_iff.1 hy
        exact hs.cell j h1)
      (by rw [U_length, hyl]; simp [U_length]; omega) (U_oneCell k _)
    rw [U_length, hyl] at hrun
    refine ⟨_, hrun, ⟨by rw [List.length_append, hyl, hl], .inr ⟨b, zs.drop m, rfl, hB, by rw [List.length_drop]; omega, hcap, ?_⟩⟩, ?_⟩
    · have := setRow_heap w b _ ((U k xs ++ zs).toArray.toList.take n ++ U k ys ++ (U k xs ++ zs).toArray.toList.drop (n + m)).toArray elem (0, 0) hr
      unfold Row
      rw [this]
      congr 3
      simp only [U_append, List.append_assoc]
      rw [List.take_left' (by rw [U_length]; exact hl), List.drop_append, U_length, hl, List.drop_eq_nil_of_le (by rw [U_length]; omega)]
      simp
    · exact ⟨rfl, rfl, rfl, by simp [World.setRow], fun i hi hne => setRow_other w b i _ (by simpa using hne)⟩

theorem run_mnz (w : World) : ∃ cs : Array Value, (callFunc 34 #[.int .i64 32]).run Tryd.prog w = .ok (.value (.slice (some ⟨w.heap.size, 0, none⟩) 32 cs.size)) ((w.alloc (.cells cs 5)).drewN 2) ∧ 32 ≤ cs.size ∧ cs.size ≤ 9223372036854775807 := by
  obtain ⟨cs, hr, h1, h2⟩ := Lib.run_makeNoZero (P := Tryd.prog) w #[3] 22 5 under_bytes 32 (by omega)
  refine ⟨cs, ?_, h1, by have := h2 (by unfold maxLen; omega); unfold maxLen at this; omega⟩
  rw [run_callFunc_extern Tryd.func34 (by kernel_rfl) (by kernel_rfl) (by kernel_rfl) (e := Extern.BytealgMakeNoZero.makeNoZero #[3] #[22]) (by kernel_rfl)]
  rw [show Value.int .i64 32 = Value.int .i64 ((32 : Nat) : Int) from rfl, hr]
  rfl

def ones (n : Nat) : List Nat := List.replicate n 1

set_option maxRecDepth 100000 in
set_option maxHeartbeats 2000000 in
theorem repeat_any {b o : Nat} {w : World} (h : Sl .u8 w (some ⟨b, o, none⟩) 1 1 [1]) :
    Calls Tryd.prog 19 #[.slice (some ⟨b, o, none⟩) 1 1, .int .i64 32] w fun e w' => ∃ rb, e = .returned (.slice (some ⟨rb, 0, none⟩) 32 32) ∧ Sl .u8 w' (some ⟨rb, 0, none⟩) 32 32 (ones 32) ∧ Below w.heap.size w w' := by
  go_enter Tryd.func19, Tryd.ntmps19
  obtain ⟨cs, hcall, hcs, hcs2⟩ := run_mnz w
  have i1 : (32 : Int) ≤ (cs.size : Int) := by omega
  have hrow : Row ((w.alloc (.cells cs 5)).drewN 2) w.heap.size 5 cs.toList := by
    have := World.alloc_heap_new w (.cells cs 5)
    unfold Row
    simpa using this
  have hbel : Below w.heap.size w ((w.alloc (.cells cs 5)).drewN 2) := belowN (below_alloc _ (Nat.le_refl _)) 2
  have hown : Own .u8 5 w.heap.size ((w.alloc (.cells cs 5)).drewN 2) (some ⟨w.heap.size, 0, none⟩) 0 cs.size [] := ⟨rfl, .inr ⟨_, cs.toList, rfl, Nat.le_refl _, by simp, hcs2, hrow⟩⟩
  have hs1 := h.keep hbel
  clear hrow
  go_upto_region 17 with (go_at_call 33; (with_reducible refine (bmul_any _).mono ?_); rintro e w' ⟨rfl, rfl⟩)
  obtain ⟨W1, hW1⟩ : ∃ W1, W1 = (w.alloc (Obj.cells cs 5)).drewN 2 := ⟨_, rfl⟩
  rw [← hW1] at hbel hown hs1
  rw [← hW1]
  obtain ⟨nb, hnb⟩ : ∃ nb, nb = w.heap.size := ⟨_, rfl⟩
  rw [← hnb] at hown
  have hnb2 : w.heap.size ≤ nb := by omega
  have hown' : Own .u8 5 nb W1 (some ⟨nb, 0, none⟩) 0 cs.size [] := by rw [hnb]; rw [hnb] at hown; exact hown
  generalize cs.size = C at *
  obtain ⟨w2, hcp2, ho2, hg2⟩ := own_copy (P := Tryd.prog) (dLen := 32) (dCap := 32) 22 22 3 5 under_bytes size_u8' hown' hs1 (by omega) (by omega) (by omega)
  rw [← hnb]
  have hb2 : Below w.heap.size w w2 := hbel.trans (grown_below hg2 hnb2 hbel.size)
  simp only [goInt] at hcp2
  clear hW1 hcall hbel hs1 hown hg2 hown' hnb
  go_upto_region 18 with (fail)
  clear hcp2
  go_loopw [10] (fun iv wr => ∃ i : Nat, (i = 1 ∨ i = 2 ∨ i = 4 ∨ i = 8 ∨ i = 16 ∨ i = 32) ∧ iv = .int .i64 i ∧ Own .u8 5 nb wr (some ⟨nb, 0, none⟩) i C (ones i) ∧ Below w.heap.size w wr) (fun iv _ => 32 - (intOf iv).toNat)
  case atStart => exact ⟨1, by omega, rfl, ho2, hb2⟩
  case round =>
    clear ho2 hb2
    obtain ⟨i, hi, rfl, ho, hb⟩ := hrel
    by_cases hlt : i < 32
    · have ho := ho.keep ((Below.refl _ wr).drew)
      have hb := hb.drew
      have hs0 := ho.sl
      have hs32 : Sl .u8 wr.drew (some ⟨nb, 0, none⟩) i 32 (ones i) := ⟨hs0.len, by omega, by omega, fun e => (by cases e), fun p e _ => (by cases e; rfl), hs0.rd⟩
      obtain ⟨w3, hcp3, ho3, hg3⟩ := own_copy (P := Tryd.prog) (dLen := 32 - i) (dCap := 32 - i) 22 22 3 5 under_bytes size_u8' ho hs32 (by omega) (by omega) (by omega)
      have hb3 : Below w.heap.size w w3 := hb.trans (grown_below hg3 hnb2 hb.size)
      simp only [goInt] at hcp3
      have e1 : ones i ++ ones i = ones (i + i) := List.replicate_append_replicate
      rw [e1] at ho3
      clear e1
      obtain ⟨j, hj⟩ : ∃ j, j = i + i := ⟨_, rfl⟩
      rw [← hj] at ho3
      have HJ := mkHid hj
      clear hj
      clear hs0 hs32 ho hb hg3
      have hi' : i = 1 ∨ i = 2 ∨ i = 4 ∨ i = 8 ∨ i = 16 := by omega
      clear hi hlt
      rcases hi' with rfl | rfl | rfl | rfl | rfl
      all_goals (
        simp only [Nat.reduceSub] at hcp3
        go_wp2
        go_region
        go_wp2
        go_roundw
        case rel => exact ⟨j, by have := HJ.out; omega, by rw [HJ.out]; rfl, ho3, hb3⟩
        case measure => simp [intOf])
    · obtain rfl : i = 32 := by omega
      go_wp2
      go_ret
      have hs := ho.sl
      exact ⟨nb, rfl, ⟨hs.len, Nat.le_refl _, by omega, fun e => (by cases e), fun p e _ => (by cases e; rfl), hs.rd⟩, hb⟩

end Go.Proofs.YtaeamlldocbeeaaDoor
