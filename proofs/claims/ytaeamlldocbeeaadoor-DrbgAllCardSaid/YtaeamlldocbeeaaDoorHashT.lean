/- drbg and baileyref4: Below. -/
import Derived.Test.YtaeamlldocbeeaaDoorHashS
namespace Go.Proofs.YtaeamlldocbeeaaDoor
open Go.RowKit Go.Shelf Num

theorem DrAt.slK {T : TypeId} {w w' : World} {db N kc vc n c : Nat} {K V xs : List Nat} {ka va a : Option Addr} (h : DrAt T w db K V N ka kc va vc) (hs : Sl .u64 w a n c xs) (hg : w.grownBy w' (some db)) : Sl .u64 w' a n c xs :=
  hs.grownRow h.row (by simp) hg

theorem Dr.nm {T : TypeId} {w w' : World} {db N n c m v : Nat} {K V : List Nat} {a : Option Addr} (h : Dr T w db K V N) (hs : Nm w a n c m v) (hg : w.grownBy w' (some db)) : Nm w' a n c m v := by
  obtain ⟨ka, kc, va, vc, h⟩ := h
  obtain ⟨xs, h1, h2, h3⟩ := hs.ex
  exact ⟨⟨xs, h.slK h1 hg, h2, h3⟩, hs.lt, hs.hm, hs.hn⟩

theorem Dr.rf {T : TypeId} {w w' : World} {db N n c m v : Nat} {K V : List Nat} {a : Option Addr} (h : Dr T w db K V N) (hs : Rf w a n c m v) (hg : w.grownBy w' (some db)) : Rf w' a n c m v := by
  obtain ⟨ka, kc, va, vc, h⟩ := h
  exact ⟨h.slK hs.sl hg, hs.lt, hs.hm⟩

theorem bytesOut_dg (K V : List Nat) (n : Nat) : Dg 256 (bytesOut K V n) := (outAt_dg K V _).take n
theorem bytesOut_len (K V : List Nat) (n : Nat) : (bytesOut K V n).length = n := by
  unfold bytesOut
  rw [List.length_take, outAt_len]
  omega

theorem be_lt2 {bs : List Nat} (h : Dg 256 bs) (m : Nat) (hm : bs.length * 8 ≤ m) : Lt2 m (be bs) := by
  have h2 : Dg 256 bs.reverse := fun x hx => h x (List.mem_reverse.1 hx)
  have h3 := val_lt h2
  rw [List.length_reverse, show (256 : Nat) = 2 ^ 8 from rfl, ← Nat.pow_mul, Nat.mul_comm] at h3
  exact ⟨Nat.lt_of_lt_of_le h3 (Nat.pow_le_pow_right (by omega) hm)⟩

/-- what Below draws -/
def drawB (K V : List Nat) (v : Nat) : Nat := be (bytesOut K V ((bitLen v + 71) / 8)) % v

section
variable {w : World} {a1 a2 : Option Addr} {n1 c1 n2 c2 m k u v : Nat}

theorem fb_nm {bs : List Nat} (h : Sl .u8 w a1 n1 c1 bs) (hd : Dg 256 bs) (hl : bs.length ≤ 1000) : Calls Tryd.prog 26 #[.slice a1 n1 c1] w (GivesC w 8000 (be bs)) :=
  (frombytes_any h hd (by rw [← h.len]; omega)).mono fun _ _ hg => hg.c (be_lt2 hd 8000 (by omega)) (by omega)

theorem rfb_nm {bs : List Nat} (h : Sl .u8 w a1 n1 c1 bs) (hd : Dg 256 bs) (hl : bs.length ≤ 1000) : Calls Tryd.prog 31 #[.slice a1 n1 c1] w (GivesF w 8000 (be bs)) :=
  (rfrombytes_any h hd (by rw [← h.len]; omega)).mono fun _ _ hg => hg.f (be_lt2 hd 8000 (by omega)) (by omega)

theorem rmd_nm (h : Rf w a1 n1 c1 m u) (h' : Rf w a2 n2 c2 k v) (hv : 0 < v) : Calls Tryd.prog 30 #[.slice a1 n1 c1, .slice a2 n2 c2] w (GivesF w k (u % v)) := by
  go_enter Tryd.func30, Tryd.ntmps30
  go_wp2_with (go_at_call 50; (with_reducible refine (rquo_nm h h' hv).mono ?_); rintro e w' ⟨a4, n4, c4, a5, n5, c5, rfl, _, hr, hb⟩)
  go_ret
  exact ⟨a5, n5, c5, rfl, hr, hb⟩
end

theorem bitLen_lt2 {m v : Nat} (h : Lt2 m v) : bitLen v ≤ m := (bitLen_le v m).2 h.1

theorem bitLen_pos {v : Nat} (h : 0 < v) : 0 < bitLen v := by
  apply Decidable.byContradiction
  intro hn
  have h1 : bitLen v ≤ 0 := by omega
  have := (bitLen_le v 0).1 h1
  simp at this
  omega

/-- a number, and that there is one -/
def GivesBelow (w : World) (db m x : Nat) (K V : List Nat) (N : Nat) (e : Ending) (w' : World) : Prop :=
  ∃ a n c, e = .returned (.tuple #[.slice a n c, .bool true]) ∧ Cn w' a n c m x ∧ Dr 52 w' db K V N ∧ w.grownBy w' (some db)

set_option maxHeartbeats 1000000 in
theorem pbelow_any {db N n c m v : Nat} {a : Option Addr} {K V : List Nat} {w : World} (h : Dr 52 w db K V N) (hm : Nm w a n c m v) (hv : 0 < v) (hm4 : m ≤ 4096) (hN : N < 4611686018427387904) (hk : KTab w) :
    Calls Tryd.prog 11 #[.pointer (some ⟨db, 0, none⟩), .slice a n c] w
      (GivesBelow w db m (drawB K V v) (bytesK K V ((bitLen v + 71) / 8)) (bytesV K V ((bitLen v + 71) / 8)) (N + 1)) := by
  have hdb := h
  have hbl := bitLen_lt2 hm.lt
  have hbp := bitLen_pos hv
  have hB := mkHid (bits_nm hm)
  obtain ⟨k, hkk⟩ : ∃ k, k = bitLen v := ⟨_, rfl⟩
  obtain ⟨nb, hnb⟩ : ∃ nb, nb = (k + 71) / 8 := ⟨_, rfl⟩
  have hdraw : drawB K V v = be (bytesOut K V nb) % v := by unfold drawB; rw [hnb, hkk]
  rw [hdraw, ← hkk, ← hnb]
  rw [← hkk] at hB hbl hbp
  have hnb1 : 1 ≤ nb ∧ nb ≤ 1000 := by omega
  have hY := mkHid (pbytes_any h (n := nb) hnb1.1 (by omega) hN hk)
  have t1 : ((k : Int) == 0) = false := beq0_f (by omega)
  have t2 : decide ((k : Int) > 4096) = false := decide_eq_false (by omega)
  have e8 : ((k : Int) + 64 + 7) / 8 = (nb : Int) := by omega
  have HNB := mkHid hnb
  clear hkk hnb hdraw h
  go_enter Tryd.func11, Tryd.ntmps11
  go_wp2_with (first
    | (go_at_call 24; (with_reducible refine hB.out.mono ?_); rintro e w' ⟨rfl, rfl⟩)
    | (go_at_call 8; (with_reducible refine hY.out.mono ?_); rintro e w1 ⟨a1, c1, rfl, hs1, hd1, hg1⟩; have hm1 := hdb.nm hm hg1; have hF := mkHid (fb_nm hs1 (bytesOut_dg _ _ _) (by rw [bytesOut_len]; exact hnb1.2)); clear hY)
    | (go_at_call 26; (with_reducible refine hF.out.mono ?_); rintro e w2 ⟨a2, n2, c2, rfl, hx2, hb2⟩; have hQ := mkHid (quo_nm hx2.nm (hm1.keep hb2) hv); clear hF)
    | (go_at_call 25; (with_reducible refine hQ.out.mono ?_); rintro e w3 ⟨a3, n3, c3, a4, n4, c4, rfl, _, hr, hb3⟩; clear hQ))
  go_ret2
  exact ⟨a4, n4, c4, rfl, hr, (hd1.keep hb2).keep hb3, grown_trans hg1 (grown_trans (below_grown hb2 _) (below_grown hb3 _))⟩

theorem pbelow_none {db n c m : Nat} {a : Option Addr} {w : World} (hm : Nm w a n c m 0) :
    Calls Tryd.prog 11 #[.pointer (some ⟨db, 0, none⟩), .slice a n c] w fun e w' => e = .returned (.tuple #[.slice none 0 0, .bool false]) ∧ w = w' := by
  have hB := mkHid (bits_nm hm)
  rw [bitLen_zero] at hB
  go_enter Tryd.func11, Tryd.ntmps11
  go_wp2_with (go_at_call 24; (with_reducible refine hB.out.mono ?_); rintro e w' ⟨rfl, rfl⟩)
  go_ret2
  exact ⟨rfl, rfl⟩

/-- the reference's number -/
def GivesRBelow (w : World) (db m x : Nat) (K V : List Nat) (N : Nat) (e : Ending) (w' : World) : Prop :=
  ∃ a n c, e = .returned (.slice a n c) ∧ Rf w' a n c m x ∧ Dr 45 w' db K V N ∧ w.grownBy w' (some db)

set_option maxHeartbeats 1000000 in
theorem rbelow_any {db N n c m v : Nat} {a : Option Addr} {K V : List Nat} {w : World} (h : Dr 45 w db K V N) (hm : Rf w a n c m v) (hv : 0 < v) (hm4 : m ≤ 4096) (hN : N < 4611686018427387904) :
    Calls Tryd.prog 14 #[.pointer (some ⟨db, 0, none⟩), .slice a n c] w
      (GivesRBelow w db m (drawB K V v) (bytesK K V ((bitLen v + 71) / 8)) (bytesV K V ((bitLen v + 71) / 8)) (N + 1)) := by
  have hdb := h
  have hbl := bitLen_lt2 hm.lt
  have hbp := bitLen_pos hv
  have hB := mkHid (rbits_nm hm)
  obtain ⟨k, hkk⟩ : ∃ k, k = bitLen v := ⟨_, rfl⟩
  obtain ⟨nb, hnb⟩ : ∃ nb, nb = (k + 71) / 8 := ⟨_, rfl⟩
  have hdraw : drawB K V v = be (bytesOut K V nb) % v := by unfold drawB; rw [hnb, hkk]
  rw [hdraw, ← hkk, ← hnb]
  rw [← hkk] at hB hbl hbp
  have hnb1 : 1 ≤ nb ∧ nb ≤ 1000 := by omega
  have hY := mkHid (gbytes_any h (n := nb) hnb1.1 (by omega) hN)
  have e8 : ((k : Int) + 71) / 8 = (nb : Int) := by omega
  have HNB := mkHid hnb
  clear hkk hnb hdraw h
  go_enter Tryd.func14, Tryd.ntmps14
  go_wp2_with (first
    | (go_at_call 29; (with_reducible refine hB.out.mono ?_); rintro e w' ⟨rfl, rfl⟩)
    | (go_at_call 9; (with_reducible refine hY.out.mono ?_); rintro e w1 ⟨a1, c1, rfl, hs1, hd1, hg1⟩; have hm1 := hdb.rf hm hg1; have hF := mkHid (rfb_nm hs1 (bytesOut_dg _ _ _) (by rw [bytesOut_len]; exact hnb1.2)); clear hY)
    | (go_at_call 31; (with_reducible refine hF.out.mono ?_); rintro e w2 ⟨a2, n2, c2, rfl, hx2, hb2⟩; have hQ := mkHid (rmd_nm hx2 (hm1.keep hb2) hv); clear hF)
    | (go_at_call 30; (with_reducible refine hQ.out.mono ?_); rintro e w3 ⟨a4, n4, c4, rfl, hr, hb3⟩; clear hQ))
  go_ret
  exact ⟨a4, n4, c4, rfl, hr, (hd1.keep hb2).keep hb3, grown_trans hg1 (grown_trans (below_grown hb2 _) (below_grown hb3 _))⟩

end Go.Proofs.YtaeamlldocbeeaaDoor
