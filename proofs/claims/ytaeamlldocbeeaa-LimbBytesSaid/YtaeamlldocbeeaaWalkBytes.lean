/- LimbBytes: the walk: it answers true. -/
import Derived.Test.YtaeamlldocbeeaaNm
import Derived.Test.YtaeamlldocbeeaaRef7
namespace Go.Proofs.Ytaeamlldocbeeaa
open Go.RowKit Num

theorem Own.convert {P : Program} {w : World} {T B : Nat} {a : Option Addr} {n c : Nat} {bs : List Nat} (h : Own .u8 T B w a n c bs) (src e dst : TypeId) (hs : P.underlying src = some (.slice e)) (he : P.underlying e = some (.int .u8))
    (hd : P.underlying dst = some .string) : (convert src dst (.slice a n c)).run P w = .ok (.string (strOf bs)) w := by
  refine h.sl.convert_at (fun p hp => ?_) src e dst hs he hd
  rcases h.row with ⟨rfl, _⟩ | ⟨b, ys, e, _⟩
  · simp at hp
  · rw [e] at hp
    simp at hp
    subst hp
    rfl

theorem be_beN (n v : Nat) (h : v < 256 ^ n) : be (beN n v) = v := by
  have hstep : ∀ i, i ≤ n → be ((beN n v).take i) = v / 256 ^ (n - i) := by
    intro i
    induction i with
    | zero =>
      intro _
      rw [Nat.sub_zero, Nat.div_eq_of_lt h]
      rfl
    | succ i ih =>
      intro hi
      rw [be_take_succ _ _ (by rw [beN_length]; omega), ih (by omega), beN_get, show n - 1 - i = n - (i + 1) by omega, show n - i = n - (i + 1) + 1 by omega, Nat.pow_succ, ← Nat.div_div_eq_div_mul, Nat.mul_comm]
      exact Nat.div_add_mod _ _
  have := hstep n (Nat.le_refl _)
  rw [Nat.sub_self, Nat.pow_zero, Nat.div_one, List.take_of_length_le (by rw [beN_length]; exact Nat.le_refl _)] at this
  exact this

theorem fits_back {v : Nat} {m : Int} (h : fitsB v m = true) : (beN m.toNat v).length ≤ 65536 ∧ be (beN m.toNat v) = v := by
  have h2 := of_decide_eq_true h
  rw [beN_length]
  refine ⟨by omega, be_beN _ _ ?_⟩
  rw [pow_256]
  have : bitLen v ≤ m.toNat * 8 := by omega
  exact (bitLen_le _ _).1 this

theorem be_lt {bs : List Nat} (h : Dg 256 bs) (m : Nat) (hm : bs.length * 8 ≤ m) : Lt2 m (be bs) := by
  have h2 : Dg 256 bs.reverse := fun x hx => h x (List.mem_reverse.1 hx)
  have h3 := val_lt h2
  rw [List.length_reverse, pow_256] at h3
  exact ⟨Nat.lt_of_lt_of_le h3 (Nat.pow_le_pow_right (by omega) hm)⟩

theorem Cn.of {w : World} {a : Option Addr} {n c v m : Nat} (h : Sl .u64 w a n c (dig 18446744073709551616 v)) (hl : Lt2 1280 v) (hm : m = 1280 := by rfl) : Cn w a n c m v := by
  subst hm
  exact ⟨h, hl, by omega⟩

section
variable {w : World} {a1 : Option Addr} {n1 c1 m v : Nat}

theorem bytes_fit (h : Nm w a1 n1 c1 m v) (j : Int) (hf : fitsB v j = true) : Calls Try.prog 30 #[.slice a1 n1 c1, .int .i64 j] w (GivesB .u8 5 w true (beN j.toNat v)) := by
  obtain ⟨xs, h1, h2, h3⟩ := h.ex
  have := h.hn
  have := bytes_any h1 h2 (by omega) j
  rwa [h3, hf, if_pos rfl] at this

theorem bytes_no_fit (h : Nm w a1 n1 c1 m v) (j : Int) (hf : fitsB v j = false) : Calls Try.prog 30 #[.slice a1 n1 c1, .int .i64 j] w (GivesB .u8 5 w false []) := by
  obtain ⟨xs, h1, h2, h3⟩ := h.ex
  have := h.hn
  have := bytes_any h1 h2 (by omega) j
  rwa [h3, hf, if_neg (by decide)] at this

theorem rbytes_fit (h : Rf w a1 n1 c1 m v) (j : Int) (hf : fitsB v j = true) : Calls Try.prog 31 #[.slice a1 n1 c1, .int .i64 j] w (GivesB .u8 5 w true (beN j.toNat v)) := by
  have := rbytes_any h.sl h.hn j
  rwa [hf, if_pos rfl] at this

theorem rbytes_no_fit (h : Rf w a1 n1 c1 m v) (j : Int) (hf : fitsB v j = false) : Calls Try.prog 31 #[.slice a1 n1 c1, .int .i64 j] w (GivesB .u8 5 w false []) := by
  have := rbytes_any h.sl h.hn j
  rwa [hf, if_neg (by decide)] at this

theorem frombytes_nm {bs : List Nat} (h : Sl .u8 w a1 n1 c1 bs) (hd : Dg 256 bs) (hl : bs.length ≤ 300) : Calls Try.prog 32 #[.slice a1 n1 c1] w (GivesC w 2400 (be bs)) :=
  (frombytes_any h hd (by rw [← h.len]; omega)).mono fun _ _ hg => hg.c (be_lt hd 2400 (by omega)) (by omega)

theorem rfrombytes_nm {bs : List Nat} (h : Sl .u8 w a1 n1 c1 bs) (hd : Dg 256 bs) (hl : bs.length ≤ 300) : Calls Try.prog 33 #[.slice a1 n1 c1] w (GivesF w 2400 (be bs)) :=
  (rfrombytes_any h hd (by rw [← h.len]; omega)).mono fun _ _ hg => hg.f (be_lt hd 2400 (by omega)) (by omega)

theorem frombytes_own {T B : Nat} {bs : List Nat} (h : Own .u8 T B w a1 n1 c1 bs) (hd : Dg 256 bs) (hl : bs.length ≤ 65536) (hv : be bs = v) : Calls Try.prog 32 #[.slice a1 n1 c1] w fun e w' =>
    ∃ a n c, e = .returned (.slice a n c) ∧ Sl .u64 w' a n c (dig 18446744073709551616 v) ∧ Below w.heap.size w w' := by
  refine (frombytes_any h.sl hd (by rw [← h.len]; omega)).mono ?_
  rintro _ _ ⟨a, n, c, rfl, ho, hb⟩
  rw [hv] at ho
  exact ⟨a, n, c, rfl, ho.sl, hb⟩

end

set_option maxHeartbeats 1000000 in
theorem bytes_w1 {a1 ab : Option Addr} {n1 c1 nb cb : Nat} {xs bs : List Nat} {w : World} (h1 : Sl .u64 w a1 n1 c1 xs) (hsb : Sl .u8 w ab nb cb bs) (hd1 : Dg 18446744073709551616 xs) (dbs : Dg 256 bs) (m : Int)
    (hfit0 : fitsB (val 18446744073709551616 (xs.take 20)) m = true) (hlen : 300 < nb) :
    Calls Try.prog 5 #[.slice a1 n1 c1, .int .i64 m, .slice ab nb cb] w (GivesBool w true) := by
  have hT : Below w.heap.size w w := Below.refl _ _
  obtain ⟨A, eA⟩ : ∃ A, val 18446744073709551616 (xs.take 20) = A := ⟨_, rfl⟩
  have hlA : Hid (Lt2 1280 A) := by show Lt2 _ _; rw [← eA]; exact Lt2.take hd1
  have hle := hsb.le
  have hcap := hsb.cap
  have hlb0 := mkHid hsb.len
  have t1 : decide (300 < nb) = true := decide_eq_true hlen
  have sb := hsb.take 300 (by omega)
  have dsb := dbs.take 300
  have hlb : (bs.take 300).length ≤ 300 := by rw [List.length_take]; omega
  clear hsb dbs
  rw [eA] at hfit0
  have hfit := hfit0
  clear hfit0
  obtain ⟨hj, hback⟩ := fits_back hfit
  go_enter Try.func5, Try.ntmps5
  go_wp2_with (first
    | (go_at_call 13; (with_reducible refine (begun_any _).mono ?_); rintro e w' ⟨rfl, hb⟩; (try (replace h1 := h1.keep hb)); (try (replace sb := sb.keep hb)); (try (replace hA := hA.keep hb)); (try (replace hX := hX.keep hb)); (try (replace hC := hC.keep hb)); (try (replace hD := hD.keep hb)); (try (replace hE := hE.keep hb)); (try (replace hF := hF.keep hb)); (try (replace hG := hG.keep hb)); replace hT := hT.trans (hb.mono hT.size))
    | (go_at_call 14; (with_reducible refine (few_nm h1 hd1).mono ?_); rintro e w' ⟨a3, n3, c3, rfl, hA, hb⟩; (try (replace h1 := h1.keep hb)); (try (replace sb := sb.keep hb)); (try (replace hX := hX.keep hb)); (try (replace hC := hC.keep hb)); (try (replace hD := hD.keep hb)); (try (replace hE := hE.keep hb)); (try (replace hF := hF.keep hb)); (try (replace hG := hG.keep hb)); replace hT := hT.trans (hb.mono hT.size); clear h1; rw [eA] at hA)
    | (go_at_call 15; (with_reducible refine (from_nm hA).mono ?_); rintro e w' ⟨a4, n4, c4, rfl, hX, hb⟩; (try (replace h1 := h1.keep hb)); (try (replace sb := sb.keep hb)); (try (replace hA := hA.keep hb)); (try (replace hC := hC.keep hb)); (try (replace hD := hD.keep hb)); (try (replace hE := hE.keep hb)); (try (replace hF := hF.keep hb)); (try (replace hG := hG.keep hb)); replace hT := hT.trans (hb.mono hT.size))
    | (go_at_call 30; (with_reducible refine (bytes_fit hA m hfit).mono ?_); rintro e w' ⟨a5, n5, c5, rfl, hC, hb⟩; (try (replace h1 := h1.keep hb)); (try (replace sb := sb.keep hb)); (try (replace hA := hA.keep hb)); (try (replace hX := hX.keep hb)); (try (replace hD := hD.keep hb)); (try (replace hE := hE.keep hb)); (try (replace hF := hF.keep hb)); (try (replace hG := hG.keep hb)); replace hT := hT.trans (hb.mono hT.size))
    | (go_at_call 31; (with_reducible refine (rbytes_fit hX m hfit).mono ?_); rintro e w' ⟨a6, n6, c6, rfl, hD, hb⟩; (try (replace h1 := h1.keep hb)); (try (replace sb := sb.keep hb)); (try (replace hA := hA.keep hb)); (try (replace hX := hX.keep hb)); (try (replace hC := hC.keep hb)); (try (replace hE := hE.keep hb)); (try (replace hF := hF.keep hb)); (try (replace hG := hG.keep hb)); replace hT := hT.trans (hb.mono hT.size))
    | (go_at_call 32; (with_reducible refine (frombytes_nm sb dsb hlb).mono ?_); rintro e w' ⟨a7, n7, c7, rfl, hE, hb⟩; (try (replace h1 := h1.keep hb)); (try (replace sb := sb.keep hb)); (try (replace hA := hA.keep hb)); (try (replace hX := hX.keep hb)); (try (replace hC := hC.keep hb)); (try (replace hD := hD.keep hb)); (try (replace hF := hF.keep hb)); (try (replace hG := hG.keep hb)); replace hT := hT.trans (hb.mono hT.size))
    | (go_at_call 33; (with_reducible refine (rfrombytes_nm sb dsb hlb).mono ?_); rintro e w' ⟨a8, n8, c8, rfl, hF, hb⟩; (try (replace h1 := h1.keep hb)); (try (replace sb := sb.keep hb)); (try (replace hA := hA.keep hb)); (try (replace hX := hX.keep hb)); (try (replace hC := hC.keep hb)); (try (replace hD := hD.keep hb)); (try (replace hE := hE.keep hb)); (try (replace hG := hG.keep hb)); replace hT := hT.trans (hb.mono hT.size))
    | (go_at_call 20; (with_reducible refine (is_nm hE hF).mono ?_); rintro e w' ⟨rfl, hb⟩; (try (replace h1 := h1.keep hb)); (try (replace sb := sb.keep hb)); (try (replace hA := hA.keep hb)); (try (replace hX := hX.keep hb)); (try (replace hC := hC.keep hb)); (try (replace hD := hD.keep hb)); (try (replace hE := hE.keep hb)); (try (replace hF := hF.keep hb)); (try (replace hG := hG.keep hb)); replace hT := hT.trans (hb.mono hT.size))
    | (go_at_call 32; (with_reducible refine (frombytes_own hC (beN_dg _ _) hj hback).mono ?_); rintro e w' ⟨a9, n9, c9, rfl, hG, hb⟩; (try (replace h1 := h1.keep hb)); (try (replace sb := sb.keep hb)); (try (replace hA := hA.keep hb)); (try (replace hX := hX.keep hb)); (try (replace hC := hC.keep hb)); (try (replace hD := hD.keep hb)); (try (replace hE := hE.keep hb)); (try (replace hF := hF.keep hb)); replace hT := hT.trans (hb.mono hT.size); replace hG := Cn.of hG hlA.out)
    | (go_at_call 20; (with_reducible refine (is_nm hG hX).mono ?_); rintro e w' ⟨rfl, hb⟩; (try (replace h1 := h1.keep hb)); (try (replace sb := sb.keep hb)); (try (replace hA := hA.keep hb)); (try (replace hX := hX.keep hb)); (try (replace hC := hC.keep hb)); (try (replace hD := hD.keep hb)); (try (replace hE := hE.keep hb)); (try (replace hF := hF.keep hb)); (try (replace hG := hG.keep hb)); replace hT := hT.trans (hb.mono hT.size); have hcv1 := hC.convert (P := Try.prog) 47 5 9 under_bytes under_u8 under_str; have hcv2 := hD.convert (P := Try.prog) 47 5 9 under_bytes under_u8 under_str))
  go_ret
  exact ⟨rfl, hT⟩

set_option maxHeartbeats 1000000 in
theorem bytes_w2 {a1 ab : Option Addr} {n1 c1 nb cb : Nat} {xs bs : List Nat} {w : World} (h1 : Sl .u64 w a1 n1 c1 xs) (hsb : Sl .u8 w ab nb cb bs) (hd1 : Dg 18446744073709551616 xs) (dbs : Dg 256 bs) (m : Int)
    (hfit0 : fitsB (val 18446744073709551616 (xs.take 20)) m = false) (hlen : 300 < nb) :
    Calls Try.prog 5 #[.slice a1 n1 c1, .int .i64 m, .slice ab nb cb] w (GivesBool w true) := by
  have hT : Below w.heap.size w w := Below.refl _ _
  obtain ⟨A, eA⟩ : ∃ A, val 18446744073709551616 (xs.take 20) = A := ⟨_, rfl⟩
  have hlA : Hid (Lt2 1280 A) := by show Lt2 _ _; rw [← eA]; exact Lt2.take hd1
  have hle := hsb.le
  have hcap := hsb.cap
  have hlb0 := mkHid hsb.len
  have t1 : decide (300 < nb) = true := decide_eq_true hlen
  have sb := hsb.take 300 (by omega)
  have dsb := dbs.take 300
  have hlb : (bs.take 300).length ≤ 300 := by rw [List.length_take]; omega
  clear hsb dbs
  rw [eA] at hfit0
  have hfit := hfit0
  clear hfit0
  go_enter Try.func5, Try.ntmps5
  go_wp2_with (first
    | (go_at_call 13; (with_reducible refine (begun_any _).mono ?_); rintro e w' ⟨rfl, hb⟩; (try (replace h1 := h1.keep hb)); (try (replace sb := sb.keep hb)); (try (replace hA := hA.keep hb)); (try (replace hX := hX.keep hb)); (try (replace hC := hC.keep hb)); (try (replace hD := hD.keep hb)); (try (replace hE := hE.keep hb)); (try (replace hF := hF.keep hb)); (try (replace hG := hG.keep hb)); replace hT := hT.trans (hb.mono hT.size))
    | (go_at_call 14; (with_reducible refine (few_nm h1 hd1).mono ?_); rintro e w' ⟨a3, n3, c3, rfl, hA, hb⟩; (try (replace h1 := h1.keep hb)); (try (replace sb := sb.keep hb)); (try (replace hX := hX.keep hb)); (try (replace hC := hC.keep hb)); (try (replace hD := hD.keep hb)); (try (replace hE := hE.keep hb)); (try (replace hF := hF.keep hb)); (try (replace hG := hG.keep hb)); replace hT := hT.trans (hb.mono hT.size); clear h1; rw [eA] at hA)
    | (go_at_call 15; (with_reducible refine (from_nm hA).mono ?_); rintro e w' ⟨a4, n4, c4, rfl, hX, hb⟩; (try (replace h1 := h1.keep hb)); (try (replace sb := sb.keep hb)); (try (replace hA := hA.keep hb)); (try (replace hC := hC.keep hb)); (try (replace hD := hD.keep hb)); (try (replace hE := hE.keep hb)); (try (replace hF := hF.keep hb)); (try (replace hG := hG.keep hb)); replace hT := hT.trans (hb.mono hT.size))
    | (go_at_call 30; (with_reducible refine (bytes_no_fit hA m hfit).mono ?_); rintro e w' ⟨a5, n5, c5, rfl, hC, hb⟩; (try (replace h1 := h1.keep hb)); (try (replace sb := sb.keep hb)); (try (replace hA := hA.keep hb)); (try (replace hX := hX.keep hb)); (try (replace hD := hD.keep hb)); (try (replace hE := hE.keep hb)); (try (replace hF := hF.keep hb)); (try (replace hG := hG.keep hb)); replace hT := hT.trans (hb.mono hT.size))
    | (go_at_call 31; (with_reducible refine (rbytes_no_fit hX m hfit).mono ?_); rintro e w' ⟨a6, n6, c6, rfl, hD, hb⟩; (try (replace h1 := h1.keep hb)); (try (replace sb := sb.keep hb)); (try (replace hA := hA.keep hb)); (try (replace hX := hX.keep hb)); (try (replace hC := hC.keep hb)); (try (replace hE := hE.keep hb)); (try (replace hF := hF.keep hb)); (try (replace hG := hG.keep hb)); replace hT := hT.trans (hb.mono hT.size); have hcv1 := hC.convert (P := Try.prog) 47 5 9 under_bytes under_u8 under_str; have hcv2 := hD.convert (P := Try.prog) 47 5 9 under_bytes under_u8 under_str)
    | (go_at_call 32; (with_reducible refine (frombytes_nm sb dsb hlb).mono ?_); rintro e w' ⟨a7, n7, c7, rfl, hE, hb⟩; (try (replace h1 := h1.keep hb)); (try (replace sb := sb.keep hb)); (try (replace hA := hA.keep hb)); (try (replace hX := hX.keep hb)); (try (replace hC := hC.keep hb)); (try (replace hD := hD.keep hb)); (try (replace hF := hF.keep hb)); (try (replace hG := hG.keep hb)); replace hT := hT.trans (hb.mono hT.size))
    | (go_at_call 33; (with_reducible refine (rfrombytes_nm sb dsb hlb).mono ?_); rintro e w' ⟨a8, n8, c8, rfl, hF, hb⟩; (try (replace h1 := h1.keep hb)); (try (replace sb := sb.keep hb)); (try (replace hA := hA.keep hb)); (try (replace hX := hX.keep hb)); (try (replace hC := hC.keep hb)); (try (replace hD := hD.keep hb)); (try (replace hE := hE.keep hb)); (try (replace hG := hG.keep hb)); replace hT := hT.trans (hb.mono hT.size))
    | (go_at_call 20; (with_reducible refine (is_nm hE hF).mono ?_); rintro e w' ⟨rfl, hb⟩; (try (replace h1 := h1.keep hb)); (try (replace sb := sb.keep hb)); (try (replace hA := hA.keep hb)); (try (replace hX := hX.keep hb)); (try (replace hC := hC.keep hb)); (try (replace hD := hD.keep hb)); (try (replace hE := hE.keep hb)); (try (replace hF := hF.keep hb)); (try (replace hG := hG.keep hb)); replace hT := hT.trans (hb.mono hT.size)))
  go_ret
  exact ⟨rfl, hT⟩

set_option maxHeartbeats 1000000 in
theorem bytes_w3 {a1 ab : Option Addr} {n1 c1 nb cb : Nat} {xs bs : List Nat} {w : World} (h1 : Sl .u64 w a1 n1 c1 xs) (hsb : Sl .u8 w ab nb cb bs) (hd1 : Dg 18446744073709551616 xs) (dbs : Dg 256 bs) (m : Int)
    (hfit0 : fitsB (val 18446744073709551616 (xs.take 20)) m = true) (hlen : ¬ 300 < nb) :
    Calls Try.prog 5 #[.slice a1 n1 c1, .int .i64 m, .slice ab nb cb] w (GivesBool w true) := by
  have hT : Below w.heap.size w w := Below.refl _ _
  obtain ⟨A, eA⟩ : ∃ A, val 18446744073709551616 (xs.take 20) = A := ⟨_, rfl⟩
  have hlA : Hid (Lt2 1280 A) := by show Lt2 _ _; rw [← eA]; exact Lt2.take hd1
  have hle := hsb.le
  have hcap := hsb.cap
  have hlb0 := mkHid hsb.len
  have t1 : decide (300 < nb) = false := decide_eq_false hlen
  have sb := hsb
  have dsb := dbs
  have hlb : bs.length ≤ 300 := by rw [hlb0.out]; omega
  clear hsb dbs
  rw [eA] at hfit0
  have hfit := hfit0
  clear hfit0
  obtain ⟨hj, hback⟩ := fits_back hfit
  go_enter Try.func5, Try.ntmps5
  go_wp2_with (first
    | (go_at_call 13; (with_reducible refine (begun_any _).mono ?_); rintro e w' ⟨rfl, hb⟩; (try (replace h1 := h1.keep hb)); (try (replace sb := sb.keep hb)); (try (replace hA := hA.keep hb)); (try (replace hX := hX.keep hb)); (try (replace hC := hC.keep hb)); (try (replace hD := hD.keep hb)); (try (replace hE := hE.keep hb)); (try (replace hF := hF.keep hb)); (try (replace hG := hG.keep hb)); replace hT := hT.trans (hb.mono hT.size))
    | (go_at_call 14; (with_reducible refine (few_nm h1 hd1).mono ?_); rintro e w' ⟨a3, n3, c3, rfl, hA, hb⟩; (try (replace h1 := h1.keep hb)); (try (replace sb := sb.keep hb)); (try (replace hX := hX.keep hb)); (try (replace hC := hC.keep hb)); (try (replace hD := hD.keep hb)); (try (replace hE := hE.keep hb)); (try (replace hF := hF.keep hb)); (try (replace hG := hG.keep hb)); replace hT := hT.trans (hb.mono hT.size); clear h1; rw [eA] at hA)
    | (go_at_call 15; (with_reducible refine (from_nm hA).mono ?_); rintro e w' ⟨a4, n4, c4, rfl, hX, hb⟩; (try (replace h1 := h1.keep hb)); (try (replace sb := sb.keep hb)); (try (replace hA := hA.keep hb)); (try (replace hC := hC.keep hb)); (try (replace hD := hD.keep hb)); (try (replace hE := hE.keep hb)); (try (replace hF := hF.keep hb)); (try (replace hG := hG.keep hb)); replace hT := hT.trans (hb.mono hT.size))
    | (go_at_call 30; (with_reducible refine (bytes_fit hA m hfit).mono ?_); rintro e w' ⟨a5, n5, c5, rfl, hC, hb⟩; (try (replace h1 := h1.keep hb)); (try (replace sb := sb.keep hb)); (try (replace hA := hA.keep hb)); (try (replace hX := hX.keep hb)); (try (replace hD := hD.keep hb)); (try (replace hE := hE.keep hb)); (try (replace hF := hF.keep hb)); (try (replace hG := hG.keep hb)); replace hT := hT.trans (hb.mono hT.size))
    | (go_at_call 31; (with_reducible refine (rbytes_fit hX m hfit).mono ?_); rintro e w' ⟨a6, n6, c6, rfl, hD, hb⟩; (try (replace h1 := h1.keep hb)); (try (replace sb := sb.keep hb)); (try (replace hA := hA.keep hb)); (try (replace hX := hX.keep hb)); (try (replace hC := hC.keep hb)); (try (replace hE := hE.keep hb)); (try (replace hF := hF.keep hb)); (try (replace hG := hG.keep hb)); replace hT := hT.trans (hb.mono hT.size))
    | (go_at_call 32; (with_reducible refine (frombytes_nm sb dsb hlb).mono ?_); rintro e w' ⟨a7, n7, c7, rfl, hE, hb⟩; (try (replace h1 := h1.keep hb)); (try (replace sb := sb.keep hb)); (try (replace hA := hA.keep hb)); (try (replace hX := hX.keep hb)); (try (replace hC := hC.keep hb)); (try (replace hD := hD.keep hb)); (try (replace hF := hF.keep hb)); (try (replace hG := hG.keep hb)); replace hT := hT.trans (hb.mono hT.size))
    | (go_at_call 33; (with_reducible refine (rfrombytes_nm sb dsb hlb).mono ?_); rintro e w' ⟨a8, n8, c8, rfl, hF, hb⟩; (try (replace h1 := h1.keep hb)); (try (replace sb := sb.keep hb)); (try (replace hA := hA.keep hb)); (try (replace hX := hX.keep hb)); (try (replace hC := hC.keep hb)); (try (replace hD := hD.keep hb)); (try (replace hE := hE.keep hb)); (try (replace hG := hG.keep hb)); replace hT := hT.trans (hb.mono hT.size))
    | (go_at_call 20; (with_reducible refine (is_nm hE hF).mono ?_); rintro e w' ⟨rfl, hb⟩; (try (replace h1 := h1.keep hb)); (try (replace sb := sb.keep hb)); (try (replace hA := hA.keep hb)); (try (replace hX := hX.keep hb)); (try (replace hC := hC.keep hb)); (try (replace hD := hD.keep hb)); (try (replace hE := hE.keep hb)); (try (replace hF := hF.keep hb)); (try (replace hG := hG.keep hb)); replace hT := hT.trans (hb.mono hT.size))
    | (go_at_call 32; (with_reducible refine (frombytes_own hC (beN_dg _ _) hj hback).mono ?_); rintro e w' ⟨a9, n9, c9, rfl, hG, hb⟩; (try (replace h1 := h1.keep hb)); (try (replace sb := sb.keep hb)); (try (replace hA := hA.keep hb)); (try (replace hX := hX.keep hb)); (try (replace hC := hC.keep hb)); (try (replace hD := hD.keep hb)); (try (replace hE := hE.keep hb)); (try (replace hF := hF.keep hb)); replace hT := hT.trans (hb.mono hT.size); replace hG := Cn.of hG hlA.out)
    | (go_at_call 20; (with_reducible refine (is_nm hG hX).mono ?_); rintro e w' ⟨rfl, hb⟩; (try (replace h1 := h1.keep hb)); (try (replace sb := sb.keep hb)); (try (replace hA := hA.keep hb)); (try (replace hX := hX.keep hb)); (try (replace hC := hC.keep hb)); (try (replace hD := hD.keep hb)); (try (replace hE := hE.keep hb)); (try (replace hF := hF.keep hb)); (try (replace hG := hG.keep hb)); replace hT := hT.trans (hb.mono hT.size); have hcv1 := hC.convert (P := Try.prog) 47 5 9 under_bytes under_u8 under_str; have hcv2 := hD.convert (P := Try.prog) 47 5 9 under_bytes under_u8 under_str))
  go_ret
  exact ⟨rfl, hT⟩

set_option maxHeartbeats 1000000 in
theorem bytes_w4 {a1 ab : Option Addr} {n1 c1 nb cb : Nat} {xs bs : List Nat} {w : World} (h1 : Sl .u64 w a1 n1 c1 xs) (hsb : Sl .u8 w ab nb cb bs) (hd1 : Dg 18446744073709551616 xs) (dbs : Dg 256 bs) (m : Int)
    (hfit0 : fitsB (val 18446744073709551616 (xs.take 20)) m = false) (hlen : ¬ 300 < nb) :
    Calls Try.prog 5 #[.slice a1 n1 c1, .int .i64 m, .slice ab nb cb] w (GivesBool w true) := by
  have hT : Below w.heap.size w w := Below.refl _ _
  obtain ⟨A, eA⟩ : ∃ A, val 18446744073709551616 (xs.take 20) = A := ⟨_, rfl⟩
  have hlA : Hid (Lt2 1280 A) := by show Lt2 _ _; rw [← eA]; exact Lt2.take hd1
  have hle := hsb.le
  have hcap := hsb.cap
  have hlb0 := mkHid hsb.len
  have t1 : decide (300 < nb) = false := decide_eq_false hlen
  have sb := hsb
  have dsb := dbs
  have hlb : bs.length ≤ 300 := by rw [hlb0.out]; omega
  clear hsb dbs
  rw [eA] at hfit0
  have hfit := hfit0
  clear hfit0
  go_enter Try.func5, Try.ntmps5
  go_wp2_with (first
    | (go_at_call 13; (with_reducible refine (begun_any _).mono ?_); rintro e w' ⟨rfl, hb⟩; (try (replace h1 := h1.keep hb)); (try (replace sb := sb.keep hb)); (try (replace hA := hA.keep hb)); (try (replace hX := hX.keep hb)); (try (replace hC := hC.keep hb)); (try (replace hD := hD.keep hb)); (try (replace hE := hE.keep hb)); (try (replace hF := hF.keep hb)); (try (replace hG := hG.keep hb)); replace hT := hT.trans (hb.mono hT.size))
    | (go_at_call 14; (with_reducible refine (few_nm h1 hd1).mono ?_); rintro e w' ⟨a3, n3, c3, rfl, hA, hb⟩; (try (replace h1 := h1.keep hb)); (try (replace sb := sb.keep hb)); (try (replace hX := hX.keep hb)); (try (replace hC := hC.keep hb)); (try (replace hD := hD.keep hb)); (try (replace hE := hE.keep hb)); (try (replace hF := hF.keep hb)); (try (replace hG := hG.keep hb)); replace hT := hT.trans (hb.mono hT.size); clear h1; rw [eA] at hA)
    | (go_at_call 15; (with_reducible refine (from_nm hA).mono ?_); rintro e w' ⟨a4, n4, c4, rfl, hX, hb⟩; (try (replace h1 := h1.keep hb)); (try (replace sb := sb.keep hb)); (try (replace hA := hA.keep hb)); (try (replace hC := hC.keep hb)); (try (replace hD := hD.keep hb)); (try (replace hE := hE.keep hb)); (try (replace hF := hF.keep hb)); (try (replace hG := hG.keep hb)); replace hT := hT.trans (hb.mono hT.size))
    | (go_at_call 30; (with_reducible refine (bytes_no_fit hA m hfit).mono ?_); rintro e w' ⟨a5, n5, c5, rfl, hC, hb⟩; (try (replace h1 := h1.keep hb)); (try (replace sb := sb.keep hb)); (try (replace hA := hA.keep hb)); (try (replace hX := hX.keep hb)); (try (replace hD := hD.keep hb)); (try (replace hE := hE.keep hb)); (try (replace hF := hF.keep hb)); (try (replace hG := hG.keep hb)); replace hT := hT.trans (hb.mono hT.size))
    | (go_at_call 31; (with_reducible refine (rbytes_no_fit hX m hfit).mono ?_); rintro e w' ⟨a6, n6, c6, rfl, hD, hb⟩; (try (replace h1 := h1.keep hb)); (try (replace sb := sb.keep hb)); (try (replace hA := hA.keep hb)); (try (replace hX := hX.keep hb)); (try (replace hC := hC.keep hb)); (try (replace hE := hE.keep hb)); (try (replace hF := hF.keep hb)); (try (replace hG := hG.keep hb)); replace hT := hT.trans (hb.mono hT.size); have hcv1 := hC.convert (P := Try.prog) 47 5 9 under_bytes under_u8 under_str; have hcv2 := hD.convert (P := Try.prog) 47 5 9 under_bytes under_u8 under_str)
    | (go_at_call 32; (with_reducible refine (frombytes_nm sb dsb hlb).mono ?_); rintro e w' ⟨a7, n7, c7, rfl, hE, hb⟩; (try (replace h1 := h1.keep hb)); (try (replace sb := sb.keep hb)); (try (replace hA := hA.keep hb)); (try (replace hX := hX.keep hb)); (try (replace hC := hC.keep hb)); (try (replace hD := hD.keep hb)); (try (replace hF := hF.keep hb)); (try (replace hG := hG.keep hb)); replace hT := hT.trans (hb.mono hT.size))
    | (go_at_call 33; (with_reducible refine (rfrombytes_nm sb dsb hlb).mono ?_); rintro e w' ⟨a8, n8, c8, rfl, hF, hb⟩; (try (replace h1 := h1.keep hb)); (try (replace sb := sb.keep hb)); (try (replace hA := hA.keep hb)); (try (replace hX := hX.keep hb)); (try (replace hC := hC.keep hb)); (try (replace hD := hD.keep hb)); (try (replace hE := hE.keep hb)); (try (replace hG := hG.keep hb)); replace hT := hT.trans (hb.mono hT.size))
    | (go_at_call 20; (with_reducible refine (is_nm hE hF).mono ?_); rintro e w' ⟨rfl, hb⟩; (try (replace h1 := h1.keep hb)); (try (replace sb := sb.keep hb)); (try (replace hA := hA.keep hb)); (try (replace hX := hX.keep hb)); (try (replace hC := hC.keep hb)); (try (replace hD := hD.keep hb)); (try (replace hE := hE.keep hb)); (try (replace hF := hF.keep hb)); (try (replace hG := hG.keep hb)); replace hT := hT.trans (hb.mono hT.size)))
  go_ret
  exact ⟨rfl, hT⟩

theorem bytes_law {a1 ab : Option Addr} {n1 c1 nb cb : Nat} {xs bs : List Nat} {w : World} (h1 : Sl .u64 w a1 n1 c1 xs) (hsb : Sl .u8 w ab nb cb bs) (hd1 : Dg 18446744073709551616 xs) (dbs : Dg 256 bs) (m : Int)
    (_hm : -9223372036854775808 ≤ m ∧ m ≤ 9223372036854775807) :
    Calls Try.prog 5 #[.slice a1 n1 c1, .int .i64 m, .slice ab nb cb] w (GivesBool w true) := by
  by_cases hl : 300 < nb
  · cases hf : fitsB (val 18446744073709551616 (xs.take 20)) m
    · exact bytes_w2 h1 hsb hd1 dbs m hf hl
    · exact bytes_w1 h1 hsb hd1 dbs m hf hl
  · cases hf : fitsB (val 18446744073709551616 (xs.take 20)) m
    · exact bytes_w4 h1 hsb hd1 dbs m hf hl
    · exact bytes_w3 h1 hsb hd1 dbs m hf hl

end Go.Proofs.Ytaeamlldocbeeaa
