/- baileylaw4: DrbgAll. -/
import Derived.Test.YtaeamlldocbeeaaDoorHashU
namespace Go.Proofs.YtaeamlldocbeeaaDoor
open Go.RowKit Go.Shelf Num

/-- one call of a script in memory -/
structure OpAt (w : World) (b o : Nat) (kd nn : Int) (ba : Option Addr) (bn bc : Nat) (bs : List Nat) (ma : Option Addr) (mn mc : Nat) (ms : List Nat) : Prop where
  c0 : w.cell? ⟨b, o, none⟩ = some (.int .i64 kd)
  c1 : w.cell? ⟨b, o + 1, none⟩ = some (.int .i64 nn)
  c2 : w.cell? ⟨b, o + 2, none⟩ = some (.slice ba bn bc)
  c3 : w.cell? ⟨b, o + 3, none⟩ = some (.slice ma mn mc)
  sb : Sl .u8 w ba bn bc bs
  bd : Dg 256 bs
  sm : Sl .u64 w ma mn mc ms
  md : Dg 18446744073709551616 ms

/-- a script in memory -/
structure OpsAt (w : World) (a : Option Addr) (n : Nat) : Prop where
  big : n ≤ 9223372036854775807
  rd : ∀ i, i < n → ∃ b o kd nn ba bn bc bs ma mn mc ms, a = some ⟨b, o, none⟩ ∧ OpAt w b (o + i * 4) kd nn ba bn bc bs ma mn mc ms

theorem OpAt.keep {w w' : World} {b o : Nat} {kd nn : Int} {ba ma : Option Addr} {bn bc mn mc : Nat} {bs ms : List Nat} (h : OpAt w b o kd nn ba bn bc bs ma mn mc ms) (hb : Below w.heap.size w w') : OpAt w' b o kd nn ba bn bc bs ma mn mc ms :=
  ⟨(hb.cell (cell_lt h.c0)).trans h.c0, (hb.cell (cell_lt h.c1)).trans h.c1, (hb.cell (cell_lt h.c2)).trans h.c2, (hb.cell (cell_lt h.c3)).trans h.c3, h.sb.keep hb, h.bd, h.sm.keep hb, h.md⟩

theorem OpsAt.keep {w w' : World} {a : Option Addr} {n : Nat} (h : OpsAt w a n) (hb : Below w.heap.size w w') : OpsAt w' a n := by
  refine ⟨h.big, fun i hi => ?_⟩
  obtain ⟨b, o, kd, nn, ba, bn, bc, bs, ma, mn, mc, ms, e, h1⟩ := h.rd i hi
  exact ⟨b, o, kd, nn, ba, bn, bc, bs, ma, mn, mc, ms, e, h1.keep hb⟩

theorem Lt2.take6 {xs : List Nat} (h : Dg 18446744073709551616 xs) {m : Nat} (hm : 384 ≤ m) : Lt2 m (val 18446744073709551616 (xs.take 6)) := by
  have h1 := val_lt (h.take 6)
  have h2 : (xs.take 6).length ≤ 6 := List.length_take_le _ _
  rw [show (18446744073709551616 : Nat) = 2 ^ 64 from rfl, ← Nat.pow_mul] at h1
  exact ⟨Nat.lt_of_lt_of_le h1 (Nat.pow_le_pow_right (by omega) (by omega))⟩

theorem Dr.cn {T : TypeId} {w w' : World} {db N n c m v : Nat} {K V : List Nat} {a : Option Addr} (h : Dr T w db K V N) (hs : Cn w a n c m v) (hg : w.grownBy w' (some db)) : Cn w' a n c m v := by
  obtain ⟨ka, kc, va, vc, h⟩ := h
  exact ⟨h.slK hs.sl hg, hs.lt, hs.hm⟩

/-- both generators over one state -/
structure Both (w : World) (db rb : Nat) (K V : List Nat) (N : Nat) : Prop where
  d : Dr 52 w db K V N
  r : Dr 45 w rb K V N
  ne : db ≠ rb
  kt : KTab w

theorem Both.keep {w w' : World} {db rb N : Nat} {K V : List Nat} (h : Both w db rb K V N) (hb : Below w.heap.size w w') : Both w' db rb K V N :=
  ⟨h.d.keep hb, h.r.keep hb, h.ne, h.kt.keep hb⟩

theorem Dr.sl {T : TypeId} {w w' : World} {db N n c : Nat} {K V xs : List Nat} {a : Option Addr} (h : Dr T w db K V N) (hs : Sl .u8 w a n c xs) (hg : w.grownBy w' (some db)) : Sl .u8 w' a n c xs := by
  obtain ⟨ka, kc, va, vc, h⟩ := h
  exact h.sl hs hg

theorem Dr.kt {T : TypeId} {w w' : World} {db N : Nat} {K V : List Nat} (h : Dr T w db K V N) (hk : KTab w) (hg : w.grownBy w' (some db)) : KTab w' := by
  obtain ⟨ka, kc, va, vc, h⟩ := h
  exact h.kt hk hg

/-- the other generator stays -/
theorem Dr.other {T T' : TypeId} {w w' : World} {db rb N M : Nat} {K V K' V' : List Nat} (h : Dr T w db K V N) (h' : Dr T' w rb K' V' M) (hg : w.grownBy w' (some rb)) (hne : db ≠ rb) : Dr T w' db K V N := by
  obtain ⟨ka, kc, va, vc, h⟩ := h
  exact ⟨ka, kc, va, vc, h.row.grownR hg (by simpa using hne), h'.sl h.ks hg, h'.sl h.vs hg, h.kd, h.vd⟩

/-- what Bytes gives at any number -/
def bOut (K V : List Nat) (z : Int) : List Nat := if 1 ≤ z ∧ z ≤ 65536 then bytesOut K V z.toNat else []
def bK (K V : List Nat) (z : Int) : List Nat := if 1 ≤ z ∧ z ≤ 65536 then bytesK K V z.toNat else K
def bV (K V : List Nat) (z : Int) : List Nat := if 1 ≤ z ∧ z ≤ 65536 then bytesV K V z.toNat else V
def bN (N : Nat) (z : Int) : Nat := if 1 ≤ z ∧ z ≤ 65536 then N + 1 else N

theorem bN_le (N : Nat) (z : Int) : bN N z ≤ N + 1 := by
  unfold bN
  split <;> omega

def GivesBz (T : TypeId) (w : World) (db : Nat) (xs K V : List Nat) (N : Nat) (e : Ending) (w' : World) : Prop :=
  ∃ a n c, e = .returned (.slice a n c) ∧ Sl .u8 w' a n c xs ∧ (∀ p, a = some p → p.spot = none) ∧ Dr T w' db K V N ∧ w.grownBy w' (some db)

theorem pbytes_z {db N : Nat} {K V : List Nat} {w : World} (h : Dr 52 w db K V N) (z : Int) (hN : N < 1000) (hk : KTab w) :
    Calls Tryd.prog 8 #[.pointer (some ⟨db, 0, none⟩), .int .i64 z] w (GivesBz 52 w db (bOut K V z) (bK K V z) (bV K V z) (bN N z)) := by
  by_cases hz : 1 ≤ z ∧ z ≤ 65536
  · obtain ⟨n, rfl⟩ : ∃ n : Nat, z = (n : Int) := ⟨z.toNat, by omega⟩
    unfold bOut bK bV bN
    rw [if_pos hz, if_pos hz, if_pos hz, if_pos hz, Int.toNat_natCast]
    refine (pbytes_any h (n := n) (by omega) (by omega) (by omega) hk).mono ?_
    rintro e w' ⟨a, c, rfl, hs, hd, hg⟩
    exact ⟨a, n, c, rfl, hs, fun p e => hs.spot p e (by have := hs.le; omega), hd, hg⟩
  · unfold bOut bK bV bN
    rw [if_neg hz, if_neg hz, if_neg hz, if_neg hz]
    refine (pbytes_none (by omega)).mono ?_
    rintro e w' ⟨rfl, rfl⟩
    exact ⟨none, 0, 0, rfl, Sl.nilSl _ _, (fun p e => by cases e), h, grown_refl _ _⟩

theorem gbytes_z {db N : Nat} {K V : List Nat} {w : World} (h : Dr 45 w db K V N) (z : Int) (hN : N < 1000) :
    Calls Tryd.prog 9 #[.pointer (some ⟨db, 0, none⟩), .int .i64 z] w (GivesBz 45 w db (bOut K V z) (bK K V z) (bV K V z) (bN N z)) := by
  by_cases hz : 1 ≤ z ∧ z ≤ 65536
  · obtain ⟨n, rfl⟩ : ∃ n : Nat, z = (n : Int) := ⟨z.toNat, by omega⟩
    unfold bOut bK bV bN
    rw [if_pos hz, if_pos hz, if_pos hz, if_pos hz, Int.toNat_natCast]
    refine (gbytes_any h (n := n) (by omega) (by omega) (by omega)).mono ?_
    rintro e w' ⟨a, c, rfl, hs, hd, hg⟩
    exact ⟨a, n, c, rfl, hs, fun p e => hs.spot p e (by have := hs.le; omega), hd, hg⟩
  · unfold bOut bK bV bN
    rw [if_neg hz, if_neg hz, if_neg hz, if_neg hz]
    refine (gbytes_none (by omega)).mono ?_
    rintro e w' ⟨rfl, rfl⟩
    exact ⟨none, 0, 0, rfl, Sl.nilSl _ _, (fun p e => by cases e), h, grown_refl _ _⟩

set_option maxRecDepth 100000 in
set_option maxHeartbeats 8000000 in
theorem law_any {n c no co : Nat} {a ao : Option Addr} {ent : List Nat} {w : World} (h : Sl .u8 w a n c ent) (hd : Dg 256 ent) (ho : OpsAt w ao no) (hk : KTab w) :
    Calls Tryd.prog 3 #[.slice a n c, .slice ao no co] w (GivesBool w true) := by
  have hnb := ho.big
  have hB := mkHid (begun4_any hk)
  go_enter Tryd.func3, Tryd.ntmps3
  go_upto_region 2 with (go_at_call 4; (with_reducible refine hB.out.mono ?_); rintro e w1 ⟨rfl, hb1⟩)
  have hSh : Hid (Calls Tryd.prog 5 #[.slice a n c, .int .i64 100] w1 _) := mkHid (short_any (m := 100) (h.keep hb1) hd (by omega))
  go_upto_region 3 with (go_at_call 5; (with_reducible refine hSh.out.mono ?_); rintro e w' ⟨n', rfl, hs, hsd, hn', rfl⟩)
  have hk1 := hk.keep hb1
  have hN := mkHid (pnew_any hs hsd (by omega) hk1)
  go_upto_region 4 with (go_at_call 6; (with_reducible refine hN.out.mono ?_); rintro e w2 ⟨db, rfl, hd2, hdb, hb2⟩)
  have hR := mkHid (rnew_any (hs.keep hb2) hsd (by omega))
  go_upto_region 5 with (go_at_call 7; (with_reducible refine hR.out.mono ?_); rintro e w3 ⟨rb, rfl, hd3, hrb, hb3⟩)
  have hdl : db < w2.heap.size := by obtain ⟨_, _, _, _, hx⟩ := hd2; exact hx.row.lt
  have hBo : Both w3 db rb (drUp Z32 (ones 32) (ent.take 100)).1 (drUp Z32 (ones 32) (ent.take 100)).2 0 := ⟨hd2.keep hb3, hd3, by omega, (hk1.keep hb2).keep hb3⟩
  have hbw : Below w.heap.size w w3 := (hb1.trans (hb2.mono hb1.size)).trans (hb3.mono (by have := hb1.size; have := hb2.size; omega))
  have hdw : w.heap.size ≤ db := by have := hb1.size; omega
  have hrw : w.heap.size ≤ rb := by have := hb1.size; have := hb2.size; omega
  clear hB hSh hN hR hs hsd hd2 hd3 hb1 hb2 hb3 hk1 hdl hdb hrb hk h
  generalize (drUp Z32 (ones 32) (ent.take 100)).1 = K0 at *
  generalize (drUp Z32 (ones 32) (ent.take 100)).2 = V0 at *
  go_wp2
  go_loopw [8] (fun iv wr => ∃ (i N : Nat) (K V : List Nat), iv = .int .i64 i ∧ i ≤ 10 ∧ N ≤ i ∧ Both wr db rb K V N ∧ Below w.heap.size w wr) (fun iv _ => 10 - (intOf iv).toNat)
  case atStart => exact ⟨0, 0, K0, V0, rfl, by omega, by omega, hBo, hbw⟩
  case round =>
    clear hBo hbw
    obtain ⟨i, N, K, V, rfl, hi, hN, hBo, hbw⟩ := hrel
    by_cases hlt : i < no ∧ i < 10
    · obtain ⟨hl1, hl2⟩ := hlt
      have t1 : decide ((i : Int) < (no : Int)) = true := decide_eq_true (by omega)
      have t2 : decide ((i : Int) < 10) = true := decide_eq_true (by omega)
      have i1 : (i : Int) < (no : Int) := by omega
      obtain ⟨ob, oo, kd, nn, ba, bn, bc, bs, ma, mn, mc, ms, rfl, hop⟩ := (ho.keep hbw).rd i hl1
      have c0 := hop.c0
      have c1 := hop.c1
      have c2 := hop.c2
      have c3 := hop.c3
      go_upto_region 11 with (fail)
      obtain ⟨W1, b9, hW1, hb9, r9, l9, z9⟩ := newObj wr 33 #[Value.int IntKind.i64 kd, Value.int IntKind.i64 nn, Value.slice ba bn bc, Value.slice ma mn mc]
      rw [← hW1, ← hb9]
      have hB1 := hBo.keep l9
      have hbw1 := hbw.trans (l9.mono hbw.size)
      have hop1 := hop.keep l9
      have d0 : W1.cell? ⟨b9, 0, none⟩ = some (.int .i64 kd) := r9.cell 0
      have d1 : W1.cell? ⟨b9, 1, none⟩ = some (.int .i64 nn) := r9.cell 1
      have d2 : W1.cell? ⟨b9, 2, none⟩ = some (.slice ba bn bc) := r9.cell 2
      have d3 : W1.cell? ⟨b9, 3, none⟩ = some (.slice ma mn mc) := r9.cell 3
      clear hW1 hb9 z9 c0 c1 c2 c3 hop hBo hbw l9
      by_cases hk0 : kd = 0
      · subst hk0
        by_cases hz1 : nn > 200
        · have t3 : decide (nn > 200) = true := decide_eq_true hz1
          by_cases hz2 : nn ≤ 65536
          · have t4 : decide (nn ≤ 65536) = true := decide_eq_true hz2
            have i2 : 0 ≤ nn := by omega
            go_upto_region 19 with (fail)
            go_cut [70] from 62 to 70 (fun q wx => q = .bool false ∧ ∃ K' V' N', N' ≤ N + 1 ∧ Both wx db rb K' V' N' ∧ Below w.heap.size w wx)
            case first =>
              have hBd := hB1.keep (Below.refl _ _).drew
              have HD := mkHid (pbytes_z hBd.d (nn % 201) (by omega) hBd.kt)
              have HR := mkHid (gbytes_z hBd.r (nn % 201) (by omega))
              have hbwd := hbw1.drew
              refine wp_region_noPanic ?_
              go_region_with (first
                | (go_at_call 8; (with_reducible refine HD.out.mono ?_); rintro e w5 ⟨a5, n5, c5, rfl, s5, sp5, d5, g5⟩; have cv5 := s5.convert_at sp5 (P := Tryd.prog) 22 5 9 under_bytes under_u8 under_str; have r5 := hBd.r.other hBd.d g5 hBd.ne.symm; have k5 := hBd.d.kt hBd.kt g5; have HR5 := mkHid (gbytes_z r5 (nn % 201) (by omega)))
                | (go_at_call 9; (with_reducible refine HR5.out.mono ?_); rintro e w6 ⟨a6, n6, c6, rfl, s6, sp6, r6, g6⟩; have s56 := r5.sl s5 g6; have cv56 := s56.convert_at sp5 (P := Tryd.prog) 22 5 9 under_bytes under_u8 under_str; have cv6 := s6.convert_at sp6 (P := Tryd.prog) 22 5 9 under_bytes under_u8 under_str; have hB6 : Both w6 db rb _ _ _ := ⟨d5.other r5 g6 hBd.ne, r6, hBd.ne, r5.kt k5 g6⟩; have hb5 := hbwd.trans (grown_below g5 hdw hbwd.size); have hb6 := hb5.trans (grown_below g6 hrw hb5.size))
                | (go_at_call 9; (with_reducible refine HR.out.mono ?_); rintro e w5 ⟨a5, n5, c5, rfl, s5, sp5, r5', g5⟩; have cv5 := s5.convert_at sp5 (P := Tryd.prog) 22 5 9 under_bytes under_u8 under_str; have d5' := hBd.d.other hBd.r g5 hBd.ne; have k5' := hBd.r.kt hBd.kt g5; have HD5 := mkHid (pbytes_z d5' (nn % 201) (by omega) k5'))
                | (go_at_call 8; (with_reducible refine HD5.out.mono ?_); rintro e w6 ⟨a6, n6, c6, rfl, s6, sp6, d6, g6⟩; have s56 := d5'.sl s5 g6; have cv56 := s56.convert_at sp5 (P := Tryd.prog) 22 5 9 under_bytes under_u8 under_str; have cv6 := s6.convert_at sp6 (P := Tryd.prog) 22 5 9 under_bytes under_u8 under_str; have hB6 : Both w6 db rb _ _ _ := ⟨d6, r5'.other d5' g6 hBd.ne.symm, hBd.ne, d5'.kt k5' g6⟩; have hb5 := hbwd.trans (grown_below g5 hrw hbwd.size); have hb6 := hb5.trans (grown_below g6 hdw hb5.size)))
              all_goals (
                refine NoPanic.normal ?_
                go_wp2
                go_meet
                case rel => exact ⟨rfl, _, _, _, bN_le N (nn % 201), hB6, hb6⟩)
            case rest =>
              obtain ⟨rfl, K', V', N', hN', hB', hbw'⟩ := hcut
              obtain ⟨ka, kc, va, vc, hdd⟩ := hB'.d
              obtain ⟨ka', kc', va', vc', hrr⟩ := hB'.r
              have cNr := hrr.cN
              go_wp2
              go_quiet (((with_reducible refine (left_any (hdd.keep (belowN (Below.refl _ _) _))).mono ?_); exact fun e w' hg => ⟨hg.1, _, hg.2.symm⟩))
              go_wp2
              go_roundw
              case rel => exact ⟨i + 1, N', K', V', by go_num, by omega, by omega, hB'.keep (belowN (Below.refl _ _) _), hbw'.trans (belowN (Below.refl _ _) _)⟩
              case measure => simp [intOf]; omega
          · have t4 : decide (nn ≤ 65536) = false := decide_eq_false hz2
            go_upto_region 19 with (fail)
            go_cut [70] from 62 to 70 (fun q wx => q = .bool false ∧ ∃ K' V' N', N' ≤ N + 1 ∧ Both wx db rb K' V' N' ∧ Below w.heap.size w wx)
            case first =>
              have hBd := hB1.keep (Below.refl _ _).drew
              have HD := mkHid (pbytes_z hBd.d nn (by omega) hBd.kt)
              have HR := mkHid (gbytes_z hBd.r nn (by omega))
              have hbwd := hbw1.drew
              refine wp_region_noPanic ?_
              go_region_with (first
                | (go_at_call 8; (with_reducible refine HD.out.mono ?_); rintro e w5 ⟨a5, n5, c5, rfl, s5, sp5, d5, g5⟩; have cv5 := s5.convert_at sp5 (P := Tryd.prog) 22 5 9 under_bytes under_u8 under_str; have r5 := hBd.r.other hBd.d g5 hBd.ne.symm; have k5 := hBd.d.kt hBd.kt g5; have HR5 := mkHid (gbytes_z r5 nn (by omega)))
                | (go_at_call 9; (with_reducible refine HR5.out.mono ?_); rintro e w6 ⟨a6, n6, c6, rfl, s6, sp6, r6, g6⟩; have s56 := r5.sl s5 g6; have cv56 := s56.convert_at sp5 (P := Tryd.prog) 22 5 9 under_bytes under_u8 under_str; have cv6 := s6.convert_at sp6 (P := Tryd.prog) 22 5 9 under_bytes under_u8 under_str; have hB6 : Both w6 db rb _ _ _ := ⟨d5.other r5 g6 hBd.ne, r6, hBd.ne, r5.kt k5 g6⟩; have hb5 := hbwd.trans (grown_below g5 hdw hbwd.size); have hb6 := hb5.trans (grown_below g6 hrw hb5.size))
                | (go_at_call 9; (with_reducible refine HR.out.mono ?_); rintro e w5 ⟨a5, n5, c5, rfl, s5, sp5, r5', g5⟩; have cv5 := s5.convert_at sp5 (P := Tryd.prog) 22 5 9 under_bytes under_u8 under_str; have d5' := hBd.d.other hBd.r g5 hBd.ne; have k5' := hBd.r.kt hBd.kt g5; have HD5 := mkHid (pbytes_z d5' nn (by omega) k5'))
                | (go_at_call 8; (with_reducible refine HD5.out.mono ?_); rintro e w6 ⟨a6, n6, c6, rfl, s6, sp6, d6, g6⟩; have s56 := d5'.sl s5 g6; have cv56 := s56.convert_at sp5 (P := Tryd.prog) 22 5 9 under_bytes under_u8 under_str; have cv6 := s6.convert_at sp6 (P := Tryd.prog) 22 5 9 under_bytes under_u8 under_str; have hB6 : Both w6 db rb _ _ _ := ⟨d6, r5'.other d5' g6 hBd.ne.symm, hBd.ne, d5'.kt k5' g6⟩; have hb5 := hbwd.trans (grown_below g5 hrw hbwd.size); have hb6 := hb5.trans (grown_below g6 hdw hb5.size)))
              all_goals (
                refine NoPanic.normal ?_
                go_wp2
                go_meet
                case rel => exact ⟨rfl, _, _, _, bN_le N nn, hB6, hb6⟩)
            case rest =>
              obtain ⟨rfl, K', V', N', hN', hB', hbw'⟩ := hcut
              obtain ⟨ka, kc, va, vc, hdd⟩ := hB'.d
              obtain ⟨ka', kc', va', vc', hrr⟩ := hB'.r
              have cNr := hrr.cN
              go_wp2
              go_quiet (((with_reducible refine (left_any (hdd.keep (belowN (Below.refl _ _) _))).mono ?_); exact fun e w' hg => ⟨hg.1, _, hg.2.symm⟩))
              go_wp2
              go_roundw
              case rel => exact ⟨i + 1, N', K', V', by go_num, by omega, by omega, hB'.keep (belowN (Below.refl _ _) _), hbw'.trans (belowN (Below.refl _ _) _)⟩
              case measure => simp [intOf]; omega
        · have t3 : decide (nn > 200) = false := decide_eq_false hz1
          go_upto_region 19 with (fail)
          go_cut [70] from 62 to 70 (fun q wx => q = .bool false ∧ ∃ K' V' N', N' ≤ N + 1 ∧ Both wx db rb K' V' N' ∧ Below w.heap.size w wx)
          case first =>
            have hBd := hB1.keep (Below.refl _ _).drew
            have HD := mkHid (pbytes_z hBd.d nn (by omega) hBd.kt)
            have HR := mkHid (gbytes_z hBd.r nn (by omega))
            have hbwd := hbw1.drew
            refine wp_region_noPanic ?_
            go_region_with (first
              | (go_at_call 8; (with_reducible refine HD.out.mono ?_); rintro e w5 ⟨a5, n5, c5, rfl, s5, sp5, d5, g5⟩; have cv5 := s5.convert_at sp5 (P := Tryd.prog) 22 5 9 under_bytes under_u8 under_str; have r5 := hBd.r.other hBd.d g5 hBd.ne.symm; have k5 := hBd.d.kt hBd.kt g5; have HR5 := mkHid (gbytes_z r5 nn (by omega)))
              | (go_at_call 9; (with_reducible refine HR5.out.mono ?_); rintro e w6 ⟨a6, n6, c6, rfl, s6, sp6, r6, g6⟩; have s56 := r5.sl s5 g6; have cv56 := s56.convert_at sp5 (P := Tryd.prog) 22 5 9 under_bytes under_u8 under_str; have cv6 := s6.convert_at sp6 (P := Tryd.prog) 22 5 9 under_bytes under_u8 under_str; have hB6 : Both w6 db rb _ _ _ := ⟨d5.other r5 g6 hBd.ne, r6, hBd.ne, r5.kt k5 g6⟩; have hb5 := hbwd.trans (grown_below g5 hdw hbwd.size); have hb6 := hb5.trans (grown_below g6 hrw hb5.size))
              | (go_at_call 9; (with_reducible refine HR.out.mono ?_); rintro e w5 ⟨a5, n5, c5, rfl, s5, sp5, r5', g5⟩; have cv5 := s5.convert_at sp5 (P := Tryd.prog) 22 5 9 under_bytes under_u8 under_str; have d5' := hBd.d.other hBd.r g5 hBd.ne; have k5' := hBd.r.kt hBd.kt g5; have HD5 := mkHid (pbytes_z d5' nn (by omega) k5'))
              | (go_at_call 8; (with_reducible refine HD5.out.mono ?_); rintro e w6 ⟨a6, n6, c6, rfl, s6, sp6, d6, g6⟩; have s56 := d5'.sl s5 g6; have cv56 := s56.convert_at sp5 (P := Tryd.prog) 22 5 9 under_bytes under_u8 under_str; have cv6 := s6.convert_at sp6 (P := Tryd.prog) 22 5 9 under_bytes under_u8 under_str; have hB6 : Both w6 db rb _ _ _ := ⟨d6, r5'.other d5' g6 hBd.ne.symm, hBd.ne, d5'.kt k5' g6⟩; have hb5 := hbwd.trans (grown_below g5 hrw hbwd.size); have hb6 := hb5.trans (grown_below g6 hdw hb5.size)))
            all_goals (
              refine NoPanic.normal ?_
              go_wp2
              go_meet
              case rel => exact ⟨rfl, _, _, _, bN_le N nn, hB6, hb6⟩)
          case rest =>
            obtain ⟨rfl, K', V', N', hN', hB', hbw'⟩ := hcut
            obtain ⟨ka, kc, va, vc, hdd⟩ := hB'.d
            obtain ⟨ka', kc', va', vc', hrr⟩ := hB'.r
            have cNr := hrr.cN
            go_wp2
            go_quiet (((with_reducible refine (left_any (hdd.keep (belowN (Below.refl _ _) _))).mono ?_); exact fun e w' hg => ⟨hg.1, _, hg.2.symm⟩))
            go_wp2
            go_roundw
            case rel => exact ⟨i + 1, N', K', V', by go_num, by omega, by omega, hB'.keep (belowN (Below.refl _ _) _), hbw'.trans (belowN (Below.refl _ _) _)⟩
            case measure => simp [intOf]; omega
      · by_cases hk1 : kd = 1
        · subst hk1
          have d2' := d3
          have hcut0 : Hid (Calls Tryd.prog 10 #[.slice ma mn mc, .int .i64 6] W1 _) := mkHid (cut_any hop1.sm 6 (by omega))
          have hmd6 : Dg 18446744073709551616 (ms.take 6) := hop1.md.take 6
          go_upto_region 23 with (go_at_call 10; (with_reducible refine hcut0.out.mono ?_); rintro e w4 ⟨a4, n4, c4, rfl, ho4, hb4⟩)
          have hB4 := hB1.keep hb4
          have hbw4 := hbw1.trans (hb4.mono hbw1.size)
          have hnm : Nm w4 a4 n4 c4 384 (val 18446744073709551616 (ms.take 6)) := ⟨⟨_, ho4.sl, hmd6, rfl⟩, Lt2.take6 hop1.md (by omega), by omega, by have := ho4.len; rw [List.length_take] at this; omega⟩
          obtain ⟨v, hv⟩ : ∃ v, v = val 18446744073709551616 (ms.take 6) := ⟨_, rfl⟩
          rw [← hv] at hnm
          clear hcut0 hv ho4 hmd6 hop1 d0 d1 d2 d3 d2'
          by_cases hv0 : v = 0
          · subst hv0
            have hP := mkHid (pbelow_none (db := db) hnm)
            have hF := mkHid (from_nm hnm)
            go_upto_region 25 with (first
              | (go_at_call 11; (with_reducible refine hP.out.mono ?_); rintro e w' ⟨rfl, rfl⟩)
              | (go_at_call 12; (with_reducible refine hF.out.mono ?_); rintro e w5 ⟨a5, n5, c5, rfl, hr5, hb5⟩))
            obtain rfl : n5 = 0 := by rw [← hr5.sl.len, dig_zero]; rfl
            have hB' := hB4.keep hb5
            have hbw' := hbw4.trans (hb5.mono hbw4.size)
            obtain ⟨N', hN'⟩ : ∃ N', N' = N := ⟨_, rfl⟩
            obtain ⟨K', hK'⟩ : ∃ K', K' = K := ⟨_, rfl⟩
            obtain ⟨V', hV'⟩ : ∃ V', V' = V := ⟨_, rfl⟩
            rw [← hN', ← hK', ← hV'] at hB'
            replace hN' : N' ≤ N + 1 := by omega
            clear hK' hV' hP hF hb5 hr5 hB4 hB1 hb4
            obtain ⟨ka, kc, va, vc, hdd⟩ := hB'.d
            obtain ⟨ka', kc', va', vc', hrr⟩ := hB'.r
            have cNr := hrr.cN
            go_wp2
            go_quiet (((with_reducible refine (left_any (hdd.keep (belowN (Below.refl _ _) _))).mono ?_); exact fun e w' hg => ⟨hg.1, _, hg.2.symm⟩))
            go_wp2
            go_roundw
            case rel => exact ⟨i + 1, N', K', V', by go_num, by omega, by omega, hB'.keep (belowN (Below.refl _ _) _), hbw'.trans (belowN (Below.refl _ _) _)⟩
            case measure => simp [intOf]; omega
          · have hvp : 0 < v := by omega
            have hP := mkHid (pbelow_any hB4.d hnm hvp (by omega) (by omega) hB4.kt)
            go_upto_region 24 with (go_at_call 11; (with_reducible refine hP.out.mono ?_); rintro e w5 ⟨a5, n5, c5, rfl, hx5, d5, g5⟩)
            have hnm5 := hB4.d.nm hnm g5
            have r5 := hB4.r.other hB4.d g5 hB4.ne.symm
            have k5 := hB4.d.kt hB4.kt g5
            have hbw5 := hbw4.trans (grown_below g5 hdw hbw4.size)
            have hF := mkHid (from_nm hnm5)
            clear hP hnm
            go_upto_region 25 with (go_at_call 12; (with_reducible refine hF.out.mono ?_); rintro e w6 ⟨a6, n6, c6, rfl, hy6, hb6⟩)
            have hn6 : 0 < n6 := by
              have h1 := hy6.sl.len
              have h2 := (dig_length_le 4294967296 (by omega) 0 v)
              rw [Nat.pow_zero] at h2
              omega
            have e6 : ((n6 : Int) == 0) = false := beq0_f (by omega)
            have r6 := r5.keep hb6
            have hx6 := hx5.keep hb6
            have hL := mkHid (rbelow_any r6 hy6 hvp (by omega) (by omega))
            have hbw6 := hbw5.trans (hb6.mono hbw5.size)
            clear hF
            go_upto_region 30 with (first
              | (go_at_call 14; (with_reducible refine hL.out.mono ?_); rintro e w7 ⟨a7, n7, c7, rfl, hy7, r7, g7⟩; have hx7 := r6.cn hx6 g7; have hI := mkHid (is_nm hx7 hy7))
              | (go_at_call 13; (with_reducible refine hI.out.mono ?_); rintro e w8 ⟨rfl, hb8⟩))
            have hB' : Both w8 db rb _ _ _ := ⟨((d5.keep hb6).other r6 g7 hB4.ne).keep hb8, r7.keep hb8, hB4.ne, (r6.kt (k5.keep hb6) g7).keep hb8⟩
            have hb7 := hbw6.trans (grown_below g7 hrw hbw6.size)
            have hbw' := hb7.trans (hb8.mono hb7.size)
            obtain ⟨N', hN'⟩ : ∃ N', N' = N + 1 := ⟨_, rfl⟩
            rw [← hN'] at hB'
            replace hN' : N' ≤ N + 1 := by omega
            generalize bytesK K V ((bitLen v + 71) / 8) = K' at *
            generalize bytesV K V ((bitLen v + 71) / 8) = V' at *
            clear hL hI hb8 hx7 hy7 r7 g7 hb7 hx6 r6 hx5 r5 k5 d5 g5 hb6 hy6 hnm5
            obtain ⟨ka, kc, va, vc, hdd⟩ := hB'.d
            obtain ⟨ka', kc', va', vc', hrr⟩ := hB'.r
            have cNr := hrr.cN
            go_wp2
            go_quiet (((with_reducible refine (left_any (hdd.keep (belowN (Below.refl _ _) _))).mono ?_); exact fun e w' hg => ⟨hg.1, _, hg.2.symm⟩))
            go_wp2
            go_roundw
            case rel => exact ⟨i + 1, N', K', V', by go_num, by omega, by omega, hB'.keep (belowN (Below.refl _ _) _), hbw'.trans (belowN (Below.refl _ _) _)⟩
            case measure => simp [intOf]; omega
        · skip
          have t3 : ((kd : Int) == 0) = false := by simpa using hk0
          have t4 : ((kd : Int) == 1) = false := by simpa using hk1
          have hSh : Hid (Calls Tryd.prog 5 #[.slice ba bn bc, .int .i64 100] W1 _) := mkHid (short_any (m := 100) hop1.sb hop1.bd (by omega))
          go_upto_region 13 with (go_at_call 5; (with_reducible refine hSh.out.mono ?_); rintro e w' ⟨n4, rfl, hs4, hd4, hn4, rfl⟩)
          have hP := mkHid (preseed_any hB1.d hs4 hd4 (by omega) hB1.kt)
          clear hSh
          go_upto_region 14 with (go_at_call 15; (with_reducible refine hP.out.mono ?_); rintro e w5 ⟨⟨v5, rfl⟩, d5, g5⟩)
          have r5 := hB1.r.other hB1.d g5 hB1.ne.symm
          have k5 := hB1.d.kt hB1.kt g5
          have s5 := hB1.d.sl hs4 g5
          have hbw5 := hbw1.trans (grown_below g5 hdw hbw1.size)
          have hR := mkHid (rreseed_any r5 s5 hd4 (by omega))
          clear hP
          go_upto_region 30 with (go_at_call 16; (with_reducible refine hR.out.mono ?_); rintro e w6 ⟨⟨v6, rfl⟩, r6, g6⟩)
          have hB' : Both w6 db rb _ _ _ := ⟨d5.other r5 g6 hB1.ne, r6, hB1.ne, r5.kt k5 g6⟩
          have hbw' := hbw5.trans (grown_below g6 hrw hbw5.size)
          obtain ⟨N', hN'⟩ : ∃ N', N' = 0 := ⟨_, rfl⟩
          rw [← hN'] at hB'
          replace hN' : N' ≤ N + 1 := by omega
          generalize (drUp K V (bs.take 100)).1 = K' at *
          generalize (drUp K V (bs.take 100)).2 = V' at *
          clear hR d5 r5 k5 s5 r6 g6 g5 hs4 hd4 hB1 hop1

          obtain ⟨ka, kc, va, vc, hdd⟩ := hB'.d
          obtain ⟨ka', kc', va', vc', hrr⟩ := hB'.r
          have cNr := hrr.cN
          go_wp2
          go_quiet (((with_reducible refine (left_any (hdd.keep (belowN (Below.refl _ _) _))).mono ?_); exact fun e w' hg => ⟨hg.1, _, hg.2.symm⟩))
          go_wp2
          go_roundw
          case rel => exact ⟨i + 1, N', K', V', by go_num, by omega, by omega, hB'.keep (belowN (Below.refl _ _) _), hbw'.trans (belowN (Below.refl _ _) _)⟩
          case measure => simp [intOf]; omega
    · by_cases hl1 : i < no
      · have hl2 : i = 10 := by omega
        subst hl2
        have t1 : decide (((10 : Nat) : Int) < (no : Int)) = true := decide_eq_true (by omega)
        have t1' : decide ((10 : Int) < (no : Int)) = true := decide_eq_true (by omega)
        go_wp2
        go_ret
        exact ⟨rfl, hbw⟩
      · have t1 : decide ((i : Int) < (no : Int)) = false := decide_eq_false (by omega)
        go_wp2
        go_ret
        exact ⟨rfl, hbw⟩

end Go.Proofs.YtaeamlldocbeeaaDoor
