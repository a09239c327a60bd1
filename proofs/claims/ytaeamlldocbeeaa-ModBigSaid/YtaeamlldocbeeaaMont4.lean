/- zmont: New. -/
import Derived.Test.YtaeamlldocbeeaaMont3
import Derived.Test.YtaeamlldocbeeaaEach1
namespace Go.Proofs.Ytaeamlldocbeeaa
open Go.RowKit Num

/-- one step of the inverse, as the words compute it -/
theorem inv_step (m0 x : Nat) (_hx : x < 18446744073709551616) : ∃ a b y : Nat, IntKind.u64.wrap ((m0 : Int) * (x : Int)) = (a : Int) ∧ IntKind.u64.wrap (2 - (a : Int)) = (b : Int) ∧ IntKind.u64.wrap ((x : Int) * (b : Int)) = (y : Int) ∧
    y < 18446744073709551616 ∧ (18446744073709551616 : Int) ∣ (y : Int) - x * (2 - m0 * x) := by
  refine ⟨m0 * x % 18446744073709551616, ((2 - ((m0 * x % 18446744073709551616 : Nat) : Int)) % 18446744073709551616).toNat, x * ((2 - ((m0 * x % 18446744073709551616 : Nat) : Int)) % 18446744073709551616).toNat % 18446744073709551616, ?_, ?_, ?_, Nat.mod_lt _ (by omega), ?_⟩
  · rw [← Int.natCast_mul, u64_nat]
  · rw [IntKind.wrap_u64]; omega
  · rw [← Int.natCast_mul, u64_nat]
  · have e1 : ∃ q : Int, ((m0 * x % 18446744073709551616 : Nat) : Int) = m0 * x - 18446744073709551616 * q := ⟨((m0 * x / 18446744073709551616 : Nat) : Int), by rw [← Int.natCast_mul]; omega⟩
    obtain ⟨q, hq⟩ := e1
    rw [hq]
    have e2 : ∃ r : Int, ((((2 - ((m0 : Int) * x - 18446744073709551616 * q)) % 18446744073709551616).toNat : Nat) : Int) = 2 - (m0 * x - 18446744073709551616 * q) - 18446744073709551616 * r :=
      ⟨(2 - ((m0 : Int) * x - 18446744073709551616 * q)) / 18446744073709551616, by omega⟩
    obtain ⟨r, hr⟩ := e2
    generalize ((2 - ((m0 : Int) * x - 18446744073709551616 * q)) % 18446744073709551616).toNat = b at *
    have e3 : ∃ s : Int, ((x * b % 18446744073709551616 : Nat) : Int) = x * b - 18446744073709551616 * s := ⟨((x * b / 18446744073709551616 : Nat) : Int), by rw [← Int.natCast_mul]; omega⟩
    obtain ⟨s, hs⟩ := e3
    rw [hs, hr]
    exact ⟨x * q - x * r - s, by grind⟩

/-- the inverse, and its negation -/
theorem inv_end (m m0 x : Nat) (hm : m0 = m % 18446744073709551616) (hx : x < 18446744073709551616) (h : (18446744073709551616 : Int) ∣ 1 - m0 * x) : ∃ y : Nat, IntKind.u64.wrap (-(x : Int)) = (y : Int) ∧ y < 18446744073709551616 ∧ (m * y + 1) % 18446744073709551616 = 0 := by
  obtain ⟨k, hk⟩ := h
  have h0 : x ≠ 0 := by rintro rfl; simp at hk; omega
  obtain ⟨q, hq⟩ : ∃ q, m = m0 + 18446744073709551616 * q := ⟨m / 18446744073709551616, by omega⟩
  obtain ⟨y, hy⟩ : ∃ y, x + y = 18446744073709551616 := ⟨18446744073709551616 - x, by omega⟩
  refine ⟨y, by rw [IntKind.wrap_u64]; omega, by omega, ?_⟩
  rw [hq]
  have hyI : (y : Int) = 18446744073709551616 - x := by omega
  have : ((((m0 + 18446744073709551616 * q) * y + 1 : Nat)) : Int) = 18446744073709551616 * (m0 + q * y + k) := by
    simp only [Int.natCast_add, Int.natCast_mul, Int.natCast_one]
    have e : (1 : Int) = 18446744073709551616 * k + m0 * x := by omega
    rw [e, hyI]
    grind
  omega

theorem take1_snoc0 (n : Nat) : val 18446744073709551616 (List.replicate n 0 ++ [1]) = 18446744073709551616 ^ n := by
  rw [val_snoc, val_replicate, List.length_replicate, Nat.zero_add, Nat.mul_one]

theorem Blk.newOne (w : World) (T : TypeId) : Blk (w.alloc (Obj.cells #[Value.int .u64 1] T)) w.heap.size .u64 T [1] := Blk.new1 w .u64 T 1

theorem newRows (w : World) (T : TypeId) (vs : Array Value) : Row (w.alloc (Obj.cells vs T)) w.heap.size T vs.toList := by
  unfold Row
  rw [heap_alloc_new]

set_option maxRecDepth 100000 in
set_option maxHeartbeats 1000000 in
theorem new_any {a1 : Option Addr} {n1 c1 k M : Nat} {w : World} (h : Nm w a1 n1 c1 k M) (hk : k ≤ 400000) (hodd : M % 2 = 1) (hgt : 1 < M) :
    Calls Try.prog 81 #[.slice a1 n1 c1] w fun e w' => ∃ p n, e = .returned (.pointer (some ⟨p, 0, none⟩)) ∧ Mo w' p n M ∧ Below w.heap.size w w' := by
  go_enter Try.func81, Try.ntmps81
  go_upto_region 2 with (first
    | (go_at_call 37; (with_reducible refine (norm_nm h).mono ?_); rintro e w' ⟨am, n, cm, rfl, hM, hb⟩))
  have hn : n ≤ 400000 := by rw [← hM.sl.len]; exact Nat.le_trans (dig_short (by omega) hM.lt) hk
  have hn0 : 0 < n := by rw [← hM.sl.len]; exact (lt_dig_length 18446744073709551616 (by omega) 0 M).2 (by rw [Nat.pow_zero]; omega)
  obtain ⟨bm, om, m0, rfl, hcm, hm0⟩ := hM.sl.get 0 hn0
  rw [Nat.add_zero] at hcm
  have hm0v := head_mod _ (dgW M) m0 hm0.out
  rw [valW] at hm0v
  have HM0 := mkHid hm0v
  have hj0 : (0 : Int) < (n : Int) := by omega
  have hst : Hid ((2 : Int) ^ (2 ^ 0) ∣ 1 - (m0 : Int) * ((1 : Nat) : Int)) := by
    show _ ∣ _
    have : m0 % 2 = 1 := by omega
    simp only [Nat.pow_zero, Int.pow_one]
    omega
  have HODD := mkHid hodd
  clear hm0v hodd h
  go_wp2
  go_loop [3, 14] (fun xv iv => ∃ (k x : Nat), k ≤ 6 ∧ x < 18446744073709551616 ∧ iv = .int .i64 k ∧ xv = .int .u64 x ∧ Hid ((2 : Int) ^ (2 ^ k) ∣ 1 - (m0 : Int) * (x : Int))) (fun _ iv => 6 - (intOf iv).toNat)
  case atStart => exact ⟨0, 1, by omega, by omega, rfl, rfl, hst⟩
  case round =>
    clear hst
    obtain ⟨k, x, hk6, hxW, rfl, rfl, hd⟩ := hrel
    by_cases hlt : k < 6
    · obtain ⟨a, b, y, e1, e2, e3, hy, hdv⟩ := inv_step m0 x hxW
      have HD := mkHid (newton_round k hlt _ _ _ hd.out hdv)
      have t1 : decide ((k : Int) < 6) = true := decide_eq_true (by omega)
      clear hdv hd
      go_wp2
      go_round
      case rel => exact ⟨k + 1, y, by omega, hy, by go_num, rfl, HD⟩
      case measure => simp [intOf]; omega
    · obtain rfl : k = 6 := by omega
      obtain ⟨y, e1, hy, hni⟩ := inv_end M m0 x (by rw [HM0.out]) hxW hd.out
      have HNI := mkHid hni
      clear hni hd
      go_upto_region 8 with (fail)
      have hrow := newRows w' 103 #[Value.slice (some ⟨bm, om, none⟩) n cm, Value.int IntKind.u64 (y : Int), Value.slice none 0 0, Value.slice none 0 0]
      have hbA : Below w'.heap.size w' _ := below_alloc (Obj.cells #[Value.slice (some ⟨bm, om, none⟩) n cm, Value.int IntKind.u64 (y : Int), Value.slice none 0 0, Value.slice none 0 0] 103) (Nat.le_refl w'.heap.size)
      generalize w'.alloc (Obj.cells #[Value.slice (some ⟨bm, om, none⟩) n cm, Value.int IntKind.u64 (y : Int), Value.slice none 0 0, Value.slice none 0 0] 103) = w1 at *
      have hp0 : w.heap.size ≤ w'.heap.size := hb.size
      obtain ⟨p, hpe⟩ : ∃ p, p = w'.heap.size := ⟨_, rfl⟩
      have hbT := hb.trans (hbA.mono hp0)
      have hM1 := hM.keep hbA
      have hne := hM.sl.old (b := w'.heap.size) (Nat.le_refl _) hn0
      rw [← hpe] at hrow hp0 hne ⊢
      have hp1 : p < w1.heap.size := hrow.lt
      clear hpe hbA hM hcm hj0 hb
      have HNE := mkHid hne
      clear hne
      have hmo : Mo0 w1 p n M := ⟨⟨_, _, _, _, _, hrow, hM1.sl⟩, by omega⟩
      go_upto_region 9 with (first
        | (at_make; refine wpList_mk rfl _ _ _ rfl 54 .u64 8 under_nat info_u64 n rfl rfl (by omega) (by omega) (by omega) (by omega) ?_; intro b w2 hB hblk hbel)
        | (at_builtin; refine wpList_app rfl (.tmp 32) (.tmp 33) 23 rfl 54 .u64 8 under_nat info_u64 w1.heap.size _ _ _ _ rfl (Own.ofBlk (hblk.alloc _) hB n (by simp) (by omega)) _ _ _ [1] rfl ((Blk.newOne w2 _).sl 1 rfl (by omega)) (by omega) (by omega) (by rw [World.size_alloc]; have := hbel.size; omega) ?_; intro ar cr w3 hor hb3))
      have hb13 : Below w1.heap.size w1 w3 := (hbel.alloc hbel.size _).trans hb3
      have hq1 := quo_any hor.sl (hM1.keep hb13).sl ((Dg.replicate (by omega) n).append (Dg.nil.snoc (by omega))) (dgW M) (by omega) (by rw [valW]; omega)
      obtain ⟨E, hE⟩ : ∃ E, E = 18446744073709551616 ^ n % M := ⟨_, rfl⟩
      rw [take1_snoc0, valW, ← hE] at hq1
      have hEM : E < M := by rw [hE]; exact Nat.mod_lt _ (by omega)
      have HE := mkHid hE
      have HQ1 := mkHid hq1
      have hEl : (dig 18446744073709551616 E).length ≤ n := by rw [← hM1.sl.len]; exact dig_length_mono _ (by omega) (by omega)
      have HEL := mkHid hEl
      clear hE hq1 hEl
      go_upto_region 10 with (first
        | (go_at_call 16; (with_reducible refine HQ1.out.mono ?_); rintro e w4 ⟨a4, n4, c4, a5, n5, c5, rfl, _, hoE, hb4⟩))
      have hn5 : n5 ≤ n := by rw [← hoE.len]; exact HEL.out
      have hb14 := hb13.trans (hb4.mono hb13.size)
      have hp2 := mul_any hoE.sl hoE.sl (dgW E) (dgW E) (by omega) (by omega)
      rw [valW] at hp2
      have HP2 := mkHid hp2
      clear hp2
      go_upto_region 11 with (first
        | (go_at_call 34; (with_reducible refine HP2.out.mono ?_); rintro e w5 ⟨a6, n6, c6, rfl, hoP, hb5⟩; have hb15 := hb14.trans (hb5.mono hb14.size); have hn6 : n6 ≤ 2 * n := (by rw [← hoP.len, dig_length_le _ (by omega), Nat.two_mul, Nat.pow_add]; have e1 := (dig_length_le 18446744073709551616 (by omega) n E).1 HEL.out; exact Nat.mul_lt_mul'' e1 e1); have hq2 := quo_any hoP.sl (hM1.keep hb15).sl (dgW _) (dgW M) (by omega) (by rw [valW]; omega); rw [valW, valW] at hq2; have HQ2 := mkHid hq2; clear hq2)
        | (go_at_call 16; (with_reducible refine HQ2.out.mono ?_); rintro e w6 ⟨a7, n7, c7, a8, n8, c8, rfl, _, hoR, hb6⟩))
      obtain ⟨R, hR⟩ : ∃ R, R = E * E % M := ⟨_, rfl⟩
      rw [← hR] at hoR
      have hRM : R < M := by rw [hR]; exact Nat.mod_lt _ (by omega)
      have hn8 : n8 ≤ n := by rw [← hoR.len, ← hM1.sl.len]; exact dig_length_mono _ (by omega) (by omega)
      have hb16 := hb15.trans (hb6.mono hb15.size)
      have HR := mkHid hR
      have f1 := fill_own (hmo.keep hb16) (((hoE.keep hb5).keep hb6).sl) (dgW E) hn5
      rw [valW] at f1
      have F1 := mkHid f1
      clear f1 hR
      go_wp2_with (first
        | (go_at_call 91; (with_reducible refine F1.out.mono ?_); rintro e w7 ⟨a9, c9, ys9, rfl, ho9, hd9, hv9, hb7⟩; have hb17 := hb16.trans (hb7.mono hb16.size); have f2 := fill_own (hmo.keep hb17) (hoR.keep hb7).sl (dgW R) hn8; rw [valW] at f2; have F2 := mkHid f2; clear f2)
        | (go_at_call 91; (with_reducible refine F2.out.mono ?_); rintro e w8 ⟨a10, c10, ys10, rfl, ho10, hd10, hv10, hb8⟩; have hb18 := hb17.trans (hb8.mono hb17.size); have r2 := (hrow.keep hb18).cell 2; have r3 := (hrow.keep hb18).cell 3; have g2 := (hrow.keep hb18).frozen 2; have g3 := (hrow.keep hb18).frozen 3; simp only [List.getElem?_cons_zero, List.getElem?_cons_succ] at r2 r3))
      go_ret
      have hs1 := hb16.size
      have q2 := grown_set (grown_refl w8 (some p)) 2 (Value.slice a9 n c9)
      have q3 := grown_set q2 3 (Value.slice a10 n c10)
      refine ⟨p, n, rfl, ⟨⟨_, _, y, a9, c9, a10, c10, ((hrow.keep hb18).set 2 _).set 3 _, (hM1.keep hb18).sl.grown q3 HNE.out, hy, HNI.out, ⟨ys9, ?_, hd9, ?_⟩, ⟨ys10, ?_, hd10, ?_⟩⟩, by omega, HODD.out, hgt⟩, ?_⟩
      · exact (((ho9.keep hb8).setOther (by omega) _ _).setOther (by omega) _ _).sl
      · rw [hv9, HE.out]
      · have := hb7.size
        exact ((ho10.setOther (by omega) _ _).setOther (by omega) _ _).sl
      · rw [hv10, HR.out, HE.out, ← Nat.mul_mod]
      · exact ((hbT.trans (hb18.mono (by omega))).setCell hp0 _).setCell hp0 _

end Go.Proofs.Ytaeamlldocbeeaa
