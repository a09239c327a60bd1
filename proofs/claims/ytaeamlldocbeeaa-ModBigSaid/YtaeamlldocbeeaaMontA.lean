/- MontA: Mont1, Mont2. -/
import Derived.Test.YtaeamlldocbeeaaLimbD
import Derived.Test.YtaeamlldocbeeaaRefD
import Derived.Test.YtaeamlldocbeeaaNumA
import Derived.Test.YtaeamlldocbeeaaNm
import Derived.StillTailTactics

/- zmont: add, and copies. -/

namespace Go.Proofs.Ytaeamlldocbeeaa
open Go.RowKit Num

theorem under_u64s : Try.prog.underlying 22 = some (.slice 54) := by kernel_rfl
theorem size_u64' : (Try.prog.info? 54).map (·.size) = some 1 := by kernel_rfl

/-- copy of a slice, empty or not, over the head of a row -/
theorem run_cpx {P : Program} {w : World} (dT sT ty : TypeId) (elem : TypeId) (hu : P.underlying dT = some (.slice elem)) (hsz : (P.info? elem).map (·.size) = some 1)
    (g dLen dCap : Nat) (sa : Option Addr) (sLen sCap : Nat)
    (k : IntKind) (us ys : List Nat) (hblk : Blk w g k elem us) (hsl : Sl k w sa sLen sCap ys) (hlen : sLen ≤ dLen) (hfit : sLen ≤ us.length) :
    ∃ w', (Builtin.copy_ #[dT, sT] ty #[.slice (some ⟨g, 0, none⟩) dLen dCap, .slice sa sLen sCap]).run P w = .ok (goInt sLen) w' ∧
      Blk w' g k elem (ys ++ us.drop sLen) ∧ w.grownBy w' (some g) := by
  by_cases h0 : sLen = 0
  · subst h0
    obtain rfl : ys = [] := List.eq_nil_of_length_eq_zero hsl.len
    refine ⟨w, run_copy_none w dT sT ty elem _ _ dLen dCap 0 sCap hu hsz (Nat.zero_min _), by simpa using hblk, grown_refl _ _⟩
  · obtain ⟨w', hr, hb, ho⟩ := run_cp (P := P) dT sT ty elem hu hsz g 0 dLen dCap sa sLen sCap k us ys hblk hsl (by omega) hlen (by omega)
    refine ⟨w', hr, by simpa using hb, ?_⟩
    have h1 := ho (w.heap.size)
    have hg := hblk.lt
    have h2 := h1.below 0 (Nat.zero_le _) (Nat.zero_le _) (Nat.zero_le _)
    exact ⟨h2.os, h2.tape, h2.output, h1.size, fun i hi hne => h1.same i hi (by simpa using Ne.symm (fun e => hne (by rw [e]))) (by omega)⟩

set_option maxHeartbeats 400000 in
/-- zmont.add: f times b added to a row that has two limbs more -/
theorem zadd_any {b n c2 : Nat} {a2 : Option Addr} {zs Y : List Nat} {f : Nat} {w : World} (hblk0 : Blk w b .u64 54 zs) (dz0 : Dg 18446744073709551616 zs) (hl : zs.length = n + 2)
    (hY : Sl .u64 w a2 n c2 Y) (dY : Dg 18446744073709551616 Y) (hne : ∀ p, a2 = some p → p.block ≠ b) (hf : f < 18446744073709551616) (hn : n ≤ 1099511627776) (hlt : val 18446744073709551616 zs + f * val 18446744073709551616 Y < 18446744073709551616 ^ (n + 2)) :
    Calls Try.prog 93 #[.slice (some ⟨b, 0, none⟩) (n + 2) (n + 2), .slice a2 n c2, .int .u64 (f : Int)] w fun e w' => ∃ us : List Nat, e = .returned (.tuple #[]) ∧
      us.length = n + 2 ∧ Dg 18446744073709551616 us ∧ val 18446744073709551616 us = val 18446744073709551616 zs + f * val 18446744073709551616 Y ∧ Blk w' b .u64 54 us ∧ w.grownBy w' (some b) := by
  have HL := mkHid hl
  have HYL := mkHid hY.len
  have HLT := mkHid hlt
  clear hl hlt
  go_enter Try.func93, Try.ntmps93
  go_wp2
  go_loopw [6, 16] (fun cv iv wr => ∃ (i ca : Nat) (us : List Nat), i ≤ n ∧ ca < 18446744073709551616 ∧ cv = .int .u64 ca ∧ iv = .int .i64 i ∧ Hid (us.length = n + 2) ∧ Dg 18446744073709551616 us ∧
    Hid (us.drop i = zs.drop i) ∧ Hid (val 18446744073709551616 (us.take i) + 18446744073709551616 ^ i * ca = val 18446744073709551616 (zs.take i) + f * val 18446744073709551616 (Y.take i)) ∧
    Blk wr b .u64 54 us ∧ w.grownBy wr (some b)) (fun _ iv _ => n - (intOf iv).toNat)
  case atStart =>
    exact ⟨0, 0, zs, Nat.zero_le _, by omega, rfl, rfl, HL, dz0, rfl, by show _ = _; simp [val], hblk0, grown_refl _ _⟩
  case round =>
    obtain ⟨i, ca, us, hi, hca, rfl, rfl, hu, du, hd, hv, hblk, hg⟩ := hrel
    by_cases hlt : i < n
    · obtain ⟨b2, o2, v, rfl, hcv, hv'⟩ := (hY.grown hg hne).get i hlt
      have hvW : v < 18446744073709551616 := by obtain ⟨h, e⟩ := hv'.out; rw [← e]; exact dY.at _ h
      obtain ⟨x, hcx, hfx, hx⟩ := hblk.get i (by rw [hu.out]; omega)
      have hxW : x < 18446744073709551616 := by obtain ⟨h, e⟩ := hx.out; rw [← e]; exact du.at _ h
      obtain ⟨hi', h1⟩ : ∃ hi, hi = f * v / 18446744073709551616 := ⟨_, rfl⟩
      obtain ⟨lo, h2'⟩ : ∃ lo, lo = f * v % 18446744073709551616 := ⟨_, rfl⟩
      obtain ⟨l1, h3⟩ : ∃ l1, l1 = (lo + x + 0) % 18446744073709551616 := ⟨_, rfl⟩
      obtain ⟨q1, h4⟩ : ∃ q1, q1 = (lo + x + 0) / 18446744073709551616 := ⟨_, rfl⟩
      obtain ⟨l2, h5⟩ : ∃ l2, l2 = (l1 + ca + 0) % 18446744073709551616 := ⟨_, rfl⟩
      obtain ⟨q2, h6⟩ : ∃ q2, q2 = (l1 + ca + 0) / 18446744073709551616 := ⟨_, rfl⟩
      obtain ⟨he, hk⟩ := mul_place 18446744073709551616 f v x ca hi' lo l1 q1 l2 q2 hf hvW hxW hca h1 h2' h3 h4 h5 h6
      have hloW : lo < 18446744073709551616 := by rw [h2']; exact Nat.mod_lt _ (by omega)
      have hl1W : l1 < 18446744073709551616 := by rw [h3]; exact Nat.mod_lt _ (by omega)
      have hl2W : l2 < 18446744073709551616 := by rw [h5]; exact Nat.mod_lt _ (by omega)
      have m1 := mul64_o f v hf hvW hi' lo h1 h2'
      have a1' := add64_run00 lo x hloW hxW l1 q1 h3 h4
      have a2' := add64_run00 l1 ca hl1W hca l2 q2 h5 h6
      obtain ⟨t1, ht1⟩ : ∃ t1, t1 = hi' + q1 := ⟨_, rfl⟩
      obtain ⟨t2, ht2⟩ : ∃ t2, t2 = t1 + q2 := ⟨_, rfl⟩
      have w1' := u64_in hi' q1 (by omega) t1 ht1
      have w2' := u64_in t1 q2 (by omega) t2 ht2
      have hE : l2 + 18446744073709551616 * t2 = f * v + x + ca := by rw [ht2, ht1]; exact he
      have htW : t2 < 18446744073709551616 := by rw [ht2, ht1]; exact hk
      have ST := mkHid (zadd_step _ _ _ _ _ _ _ _ _ _ _ hv.out hE)
      have M := mkHid m1
      clear h1 h2' h3 h4 h5 h6 he hk ht1 ht2 hE m1
      go_wp2_with (go_at_call 73; (with_reducible refine (M.out _).mono ?_); rintro e w' ⟨rfl, rfl⟩)
      go_roundw
      case rel =>
        obtain ⟨hp, ex⟩ := hx.out
        obtain ⟨hp2, ev⟩ := hv'.out
        have hzl : i < zs.length := by rw [HL.out]; omega
        have exz := getElem_of_drop hd.out hp hzl
        refine ⟨i + 1, t2, us.set i l2, by omega, htW, rfl, by go_num, ?_, du.set _ _ hl2W, ?_, ?_, hblk.set _ _, grown_set hg _ _⟩
        · show _ = _
          rw [List.length_set]; exact hu.out
        · show _ = _
          rw [drop_set_succ]
          exact drop_succ_of_drop hd.out
        · show _ = _
          rw [take_set_succ _ _ _ hp, val_snoc, List.length_take, Nat.min_eq_left (by omega), val_take_succ _ zs _ hzl, val_take_succ _ Y _ hp2, ev, ← exz, ex, Nat.pow_succ, Nat.mul_add f, ← Nat.mul_assoc f, Nat.mul_comm f (18446744073709551616 ^ i), Nat.mul_assoc (18446744073709551616 ^ i) f]
          exact ST.out
      case measure => simp [intOf]; omega
    · obtain rfl : i = n := by omega
      obtain ⟨x0, hc0, hf0, hx0⟩ := hblk.get i (by rw [hu.out]; omega)
      have hx0W : x0 < 18446744073709551616 := by obtain ⟨h, e⟩ := hx0.out; rw [← e]; exact du.at _ h
      obtain ⟨x1, hc1, hf1, hx1⟩ := hblk.get (i + 1) (by rw [hu.out]; omega)
      have hx1W : x1 < 18446744073709551616 := by obtain ⟨h, e⟩ := hx1.out; rw [← e]; exact du.at _ h
      obtain ⟨s0, g1⟩ : ∃ s, s = (x0 + ca + 0) % 18446744073709551616 := ⟨_, rfl⟩
      obtain ⟨k0, g2⟩ : ∃ k, k = (x0 + ca + 0) / 18446744073709551616 := ⟨_, rfl⟩
      obtain ⟨s1, g3⟩ : ∃ s, s = (x1 + k0) % 18446744073709551616 := ⟨_, rfl⟩
      obtain ⟨k1, g4⟩ : ∃ k, k = (x1 + k0) / 18446744073709551616 := ⟨_, rfl⟩
      have a1' := add64_run00 x0 ca hx0W hca s0 k0 g1 g2
      have w1 : IntKind.u64.wrap ((x1 : Int) + (k0 : Int)) = (s1 : Int) := by rw [IntKind.wrap_u64]; omega
      have hs0W : s0 < 18446744073709551616 := by rw [g1]; exact Nat.mod_lt _ (by omega)
      have hs1W : s1 < 18446744073709551616 := by rw [g3]; exact Nat.mod_lt _ (by omega)
      have HF : Hid (val 18446744073709551616 ((us.set i s0).set (i + 1) s1) = val 18446744073709551616 zs + f * val 18446744073709551616 Y) := by
        show _ = _
        obtain ⟨p0, e0⟩ := hx0.out
        obtain ⟨p1, e1⟩ := hx1.out
        have v1 := val_set 18446744073709551616 us i s0 p0
        have v2 := val_set 18446744073709551616 (us.set i s0) (i + 1) s1 (by rw [List.length_set]; exact p1)
        rw [List.getElem_set_ne (by omega), e1, Nat.pow_succ] at v2
        rw [e0] at v1
        have h1 := val_take_drop 18446744073709551616 us i (by omega)
        have h2 := val_take_drop 18446744073709551616 zs i (by rw [HL.out]; omega)
        rw [hd.out] at h1
        have h3 := hv.out
        rw [List.take_of_length_le (l := Y) (by rw [HYL.out]; omega)] at h3
        have hfin := zadd_fin 18446744073709551616 (18446744073709551616 ^ i) (val 18446744073709551616 us) (val 18446744073709551616 zs) (f * val 18446744073709551616 Y) ca x0 x1 s0 k0 s1 k1 _ _ (by omega) v1 v2 (by omega) (by omega)
        have hb := HLT.out
        rcases Nat.eq_zero_or_pos k1 with h0 | h0
        · rw [h0, Nat.mul_zero] at hfin; exact hfin
        · exfalso
          have : 18446744073709551616 ^ i * 18446744073709551616 * 18446744073709551616 * 1 ≤ 18446744073709551616 ^ i * 18446744073709551616 * 18446744073709551616 * k1 := Nat.mul_le_mul_left _ h0
          rw [Nat.pow_succ, Nat.pow_succ] at hb
          omega
      clear g1 g2 g3 g4
      go_wp2
      go_end0
      exact ⟨_, rfl, by rw [List.length_set, List.length_set]; exact hu.out, (du.set _ _ hs0W).set _ _ hs1W, HF.out, (hblk.set _ _).set _ _, grown_set (grown_set hg _ _) _ _⟩

end Go.Proofs.Ytaeamlldocbeeaa

/- zmont: fill, below. -/

namespace Go.Proofs.Ytaeamlldocbeeaa
open Go.RowKit Num

/-- block p is a modulus m of n limbs; nothing is said of the rest of it -/
structure Mo0 (w : World) (p n m : Nat) : Prop where
  ex : ∃ am cm v1 v2 v3, Row w p 103 [.slice am n cm, v1, v2, v3] ∧ Sl .u64 w am n cm (dig 18446744073709551616 m)
  hn : n ≤ 1000000

theorem Mo0.keep {w w' : World} {p n m : Nat} (h : Mo0 w p n m) (hb : Below w.heap.size w w') : Mo0 w' p n m := by
  obtain ⟨am, cm, v1, v2, v3, h1, h2⟩ := h.ex
  exact ⟨⟨am, cm, v1, v2, v3, h1.keep hb, h2.keep hb⟩, h.hn⟩

/-- the slice has n limbs and reads the number v -/
structure Vc (w : World) (a : Option Addr) (n c v : Nat) : Prop where
  ex : ∃ xs, Sl .u64 w a n c xs ∧ Dg 18446744073709551616 xs ∧ val 18446744073709551616 xs = v

theorem Vc.keep {w w' : World} {a : Option Addr} {n c v : Nat} (h : Vc w a n c v) (hb : Below w.heap.size w w') : Vc w' a n c v := by
  obtain ⟨xs, h1, h2, h3⟩ := h.ex
  exact ⟨xs, h1.keep hb, h2, h3⟩

/-- limbs are the result -/
def GivesV (w : World) (n v : Nat) (e : Ending) (w' : World) : Prop :=
  ∃ a c, e = .returned (.slice a n c) ∧ Vc w' a n c v ∧ Below w.heap.size w w'

theorem grown_sl {k : IntKind} {w w' : World} {a : Option Addr} {n c b : Nat} {xs : List Nat} (h : Sl k w a n c xs) (hg : w.grownBy w' (some b)) (hb : ∀ q, a = some q → q.block ≠ b) : Sl k w' a n c xs := h.grown hg hb

/-- a slice of older memory lies in no newer block -/
theorem Sl.old {k : IntKind} {w : World} {a : Option Addr} {n c : Nat} {xs : List Nat} (h : Sl k w a n c xs) {b : Nat} (hb : w.heap.size ≤ b) (hn : 0 < n) : ∀ q, a = some q → q.block ≠ b := by
  intro q e
  obtain ⟨b', o', e', hc⟩ := h.rd 0 (by rw [h.len]; exact hn)
  rw [e] at e'
  cases e'
  have h2 : b' < w.heap.size := World.block_lt_of_cell? _ _ hc
  show b' ≠ b
  omega

/-- limbs of their own memory are the result -/
def GivesO (w : World) (n v : Nat) (e : Ending) (w' : World) : Prop :=
  ∃ a c xs, e = .returned (.slice a n c) ∧ Own .u64 54 w.heap.size w' a n c xs ∧ Dg 18446744073709551616 xs ∧ val 18446744073709551616 xs = v ∧ Below w.heap.size w w'

theorem fill_own {p n m : Nat} {a1 : Option Addr} {n1 c1 : Nat} {xs : List Nat} {w : World} (h : Mo0 w p n m) (h1 : Sl .u64 w a1 n1 c1 xs) (hd1 : Dg 18446744073709551616 xs) (hle : n1 ≤ n) :
    Calls Try.prog 91 #[.pointer (some ⟨p, 0, none⟩), .slice a1 n1 c1] w (GivesO w n (val 18446744073709551616 xs)) := by
  obtain ⟨am, cm, v1, v2, v3, hr, hm⟩ := h.ex
  have hn := h.hn
  have hc0 := hr.cell 0
  simp only [List.getElem?_cons_zero] at hc0
  go_enter Try.func91, Try.ntmps91
  go_upto_region 2 with (first
    | (at_make; refine wpList_mk rfl _ _ _ rfl 54 .u64 8 under_u64s info_u64 n rfl rfl (by omega) (by omega) (by omega) (by omega) ?_; intro b w2 hB hblk hbel))
  obtain ⟨w5, hcp, hb5, hg5⟩ := run_cpx (P := Try.prog) 22 23 3 54 under_u64s size_u64' b n n a1 n1 c1 .u64 _ xs hblk (h1.keep hbel) hle (by simpa using hle)
  simp only [goInt] at hcp
  go_wp2
  go_ret
  refine ⟨_, _, _, rfl, Own.ofBlk hb5 hB n ?_ (by omega), ?_, ?_, hbel.trans (grown_below hg5 hB hbel.size)⟩
  · rw [List.length_append, h1.len, List.length_drop, List.length_replicate]; omega
  · exact hd1.append ((Dg.replicate (by omega) _).drop _)
  · rw [List.drop_replicate, val_append, val_replicate, Nat.mul_zero, Nat.add_zero]

theorem fill_any {p n m : Nat} {a1 : Option Addr} {n1 c1 : Nat} {xs : List Nat} {w : World} (h : Mo0 w p n m) (h1 : Sl .u64 w a1 n1 c1 xs) (hd1 : Dg 18446744073709551616 xs) (hle : n1 ≤ n) :
    Calls Try.prog 91 #[.pointer (some ⟨p, 0, none⟩), .slice a1 n1 c1] w (GivesV w n (val 18446744073709551616 xs)) :=
  (fill_own h h1 hd1 hle).mono fun _ _ ⟨a, c, xs, he, ho, hd, hv, hb⟩ => ⟨a, c, he, ⟨xs, ho.sl, hd, hv⟩, hb⟩

set_option maxRecDepth 100000 in
set_option maxHeartbeats 1000000 in
theorem below_any {p n m c ov V r : Nat} {a1 : Option Addr} {zs : List Nat} {w : World} (h : Mo0 w p n m) (h1 : Sl .u64 w a1 n c zs) (dz : Dg 18446744073709551616 zs) (_hov : ov < 18446744073709551616) (hm0 : 0 < m)
    (hV : V = val 18446744073709551616 zs + 18446744073709551616 ^ n * ov) (hV2 : V < 2 * m) (hr0 : r = if V < m then V else V - m) :
    Calls Try.prog 94 #[.pointer (some ⟨p, 0, none⟩), .slice a1 n c, .int .u64 (ov : Int)] w (GivesV w n r) := by
  obtain ⟨am, cm, v1, v2, v3, hr, hm⟩ := h.ex
  have hn := h.hn
  have hc0 := hr.cell 0
  simp only [List.getElem?_cons_zero] at hc0
  have HV := mkHid hV
  have HV2 := mkHid hV2
  have HR := mkHid hr0
  have hn1 : 0 < n := by
    rw [← hm.len]
    exact (lt_dig_length 18446744073709551616 (by omega) 0 m).2 (by rw [Nat.pow_zero]; exact hm0)
  have vM := mkHid (val_dig 18446744073709551616 (by omega) m)
  have dM := Dg.dig 18446744073709551616 (by omega) m
  generalize dig 18446744073709551616 m = M at *
  clear hV hV2 hr0
  go_enter Try.func94, Try.ntmps94
  go_wp2_with (first
    | (at_make; refine wpList_mk rfl _ _ _ rfl 54 .u64 8 under_u64s info_u64 n rfl rfl (by omega) (by omega) (by omega) (by omega) ?_; intro b w2 hB hblk hbel))
  go_loopw [8, 18] (fun bv iv wr => ∃ (i bo : Nat) (us : List Nat), i ≤ n ∧ bo ≤ 1 ∧ bv = .int .u64 bo ∧ iv = .int .i64 i ∧ Hid (us.length = n) ∧ Dg 18446744073709551616 us ∧
    Hid (val 18446744073709551616 (us.take i) + val 18446744073709551616 (M.take i) = val 18446744073709551616 (zs.take i) + 18446744073709551616 ^ i * bo) ∧ Blk wr b .u64 54 us ∧ Below w.heap.size w wr) (fun _ iv _ => n - (intOf iv).toNat)
  case atStart =>
    exact ⟨0, 0, _, Nat.zero_le _, by omega, rfl, rfl, by show _ = _; simp, Dg.replicate (by omega) _, by show _ = _; simp [val], hblk, hbel⟩
  case round =>
    clear hblk hbel
    obtain ⟨i, bo, us, hi, hbo, rfl, rfl, hu, du, hv, hblk, hbel⟩ := hrel
    by_cases hlt : i < n
    · obtain ⟨b1, o1, x, rfl, hcx, hx⟩ := (h1.keep hbel).get i hlt
      have hxW : x < 18446744073709551616 := by obtain ⟨h, e⟩ := hx.out; rw [← e]; exact dz.at _ h
      obtain ⟨b2, o2, y, rfl, hcy, hy⟩ := (hm.keep hbel).get i hlt
      have hyW : y < 18446744073709551616 := by obtain ⟨h, e⟩ := hy.out; rw [← e]; exact dM.at _ h
      have hcp := (hr.keep hbel).cell 0
      simp only [List.getElem?_cons_zero] at hcp
      obtain ⟨z0, hcb, hfb, _⟩ := hblk.get i (by rw [hu.out]; exact hlt)
      obtain ⟨s, g5⟩ : ∃ s, s = (x + 18446744073709551616 - y - bo) % 18446744073709551616 := ⟨_, rfl⟩
      obtain ⟨bo', g6⟩ : ∃ bo', bo' = if x < y + bo then 1 else 0 := ⟨_, rfl⟩
      have a2 := sub64_run x y bo hxW hyW hbo s bo' g5 g6
      have st := sub_step 18446744073709551616 _ s bo' x y bo _ _ _ hv.out hxW hyW hbo g5 g6
      have hsW : s < 18446744073709551616 := by rw [g5]; exact Nat.mod_lt _ (by omega)
      have hbo' : bo' ≤ 1 := by rw [g6]; split <;> omega
      have ST := mkHid st
      have i0 : (0 : Int) ≤ (i : Int) := by omega
      have i1 : (i : Int) < (n : Int) := by omega
      clear g5 g6 st hc0
      go_wp2
      go_region
      go_wp2
      go_roundw
      case rel =>
        obtain ⟨hp, ex⟩ := hx.out
        obtain ⟨hp2, ey⟩ := hy.out
        refine ⟨i + 1, bo', us.set i s, by omega, hbo', rfl, by go_num, ?_, du.set _ _ hsW, ?_, hblk.set _ _, (hbel.setCell hB _).drew⟩
        · show _ = _
          rw [List.length_set]; exact hu.out
        · show _ = _
          rw [take_set_succ _ _ _ (by rw [hu.out]; exact hlt), val_snoc, List.length_take, Nat.min_eq_left (by rw [hu.out]; omega), val_take_succ _ zs _ hp, val_take_succ _ M _ hp2, ex, ey, Nat.pow_succ]
          exact ST.out
      case measure => simp [intOf]; omega
    · obtain rfl : i = n := by omega
      have HB := below_val (18446744073709551616 ^ i) (val 18446744073709551616 zs) m (val 18446744073709551616 us) ov bo (by rw [← vM.out, ← hm.len]; exact val_lt dM) (by have := val_lt du; rw [hu.out] at this; exact this)
        (by have := hv.out; rw [List.take_of_length_le (by rw [hu.out]; exact Nat.le_refl _), List.take_of_length_le (by rw [hm.len]; exact Nat.le_refl _), List.take_of_length_le (by rw [h1.len]; exact Nat.le_refl _), vM.out] at this; exact this)
        (by rw [← HV.out]; exact HV2.out) hbo
      rw [← HV.out, ← HR.out] at HB
      have HBH := mkHid HB
      clear HB hc0
      by_cases hov2 : ov < bo
      · have t1 : decide (ov < bo) = true := decide_eq_true hov2
        obtain ⟨w5, hcp, hb5, hg5⟩ := run_cpx (P := Try.prog) 22 22 3 54 under_u64s size_u64' b i i a1 i c .u64 _ zs hblk (h1.keep hbel) (Nat.le_refl _) (by rw [hu.out]; exact Nat.le_refl _)
        simp only [goInt] at hcp
        rw [List.drop_of_length_le (by rw [hu.out]; exact Nat.le_refl _), List.append_nil] at hb5
        have hov3 := mkHid hov2
        clear hov2
        go_wp2
        go_ret
        exact ⟨_, _, rfl, ⟨_, hb5.sl i h1.len (by omega), dz, HBH.out.1 hov3.out⟩, hbel.trans (grown_below hg5 hB hbel.size)⟩
      · have t1 : decide (ov < bo) = false := decide_eq_false hov2
        have hov3 := mkHid hov2
        clear hov2
        go_wp2
        go_ret
        exact ⟨_, _, rfl, ⟨_, hblk.sl i hu.out (by omega), du, HBH.out.2 hov3.out⟩, hbel⟩

end Go.Proofs.Ytaeamlldocbeeaa
