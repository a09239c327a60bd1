/- modarith: Next. -/
import Derived.Test.YtaeamlldocbeeaaNum11
namespace Go.Proofs.Ytaeamlldocbeeaa
open Go.RowKit Num

theorem or_one (x : Nat) : x ||| 1 = x + (1 - x % 2) := by
  have h := or_low 1 1 (x / 2) (by omega)
  rcases Nat.mod_two_eq_zero_or_one x with h0 | h0
  · have e : 2 ^ 1 * (x / 2) = x := by omega
    rw [e, Nat.or_comm] at h
    rw [h]; omega
  · have e : 1 + 2 ^ 1 * (x / 2) = x := by omega
    have e2 : 1 ||| x = x := by
      rw [e] at h
      conv => lhs; rw [← h]
      rw [← Nat.or_assoc, Nat.or_self, h]
    rw [Nat.or_comm, e2]; omega

theorem low_one (v : Nat) (hv : 0 < v) (x : Nat) (hx : ∃ h : 0 < (dig 18446744073709551616 v).length, (dig 18446744073709551616 v)[0] = x) : (dig 18446744073709551616 v).set 0 (x ||| 1) = dig 18446744073709551616 (v + (1 - v % 2)) := by
  have h1 := head_mod _ (dgW v) x hx
  rw [valW] at h1
  have e1 := dig_pos 18446744073709551616 v (by omega) hv
  have e2 := dig_pos 18446744073709551616 (v + (1 - v % 2)) (by omega) (by omega)
  rw [e1, e2, List.set_cons_zero, or_one, ← h1]
  congr 1
  · omega
  · congr 1; omega

/-- where the search for a prime begins -/
def startP (N : Nat) : Nat := if N < 2 then 3 else N + (1 - N % 2)

/-- does a number end the search? -/
def okB (e p : Nat) : Bool := !partedB p && decide (Nat.gcd (p - 1) e = 1) && probB p

/-- the first number that ends the search -/
structure IsNext (N e p : Nat) : Prop where
  odd : p % 2 = 1
  ge : startP N ≤ p
  ok : okB e p = true
  no : ∀ q, q % 2 = 1 → startP N ≤ q → q < p → okB e q = false

theorem Nm.tight {w : World} {a : Option Addr} {n c m k v : Nat} (h : Nm w a n c m v) (hl : v < 2 ^ k) (hk : k ≤ 1000000) : Nm w a n c k v := ⟨h.ex, ⟨hl⟩, hk, h.hn⟩

theorem Cn.tight {w : World} {a : Option Addr} {n c m k v : Nat} (h : Cn w a n c m v) (hl : v < 2 ^ k) (hk : k ≤ 1000000) : Cn w a n c k v := ⟨h.sl, ⟨hl⟩, hk⟩

theorem startP_odd (N : Nat) : startP N % 2 = 1 := by
  unfold startP
  split <;> omega

theorem startP_le (N G : Nat) (hN : N < 2 ^ 128) (hG : 2 ^ 128 ≤ G) : startP N ≤ G := by
  have : (2 : Nat) ^ 128 = 340282366920938463463374607431768211456 := by decide
  unfold startP
  split <;> omega

theorem Good.ok {e G : Nat} (h : Good e G) : okB e G = true := by
  unfold okB
  rw [h.parted, h.prob, decide_eq_true h.gcd]
  rfl

section
variable {w : World} {a1 a2 : Option Addr} {n1 c1 n2 c2 m k N e : Nat}

theorem norm_own (h : Nm w a1 n1 c1 m N) : Calls Try.prog 37 #[.slice a1 n1 c1] w (Gives .u64 54 w (dig 18446744073709551616 N)) := by
  obtain ⟨xs, h1, h2, h3⟩ := h.ex
  have := h.hn
  rw [← h3]
  exact norm_any h1 h2 (by omega)

theorem of_own3 (w : World) : Calls Try.prog 62 #[.int .u64 3] w (Gives .u64 54 w (dig 18446744073709551616 3)) := of_any 3 (by omega) w

theorem next_even (h : Nm w a1 n1 c1 m N) (h' : Nm w a2 n2 c2 k e) (he : e % 2 = 0) : Calls Try.prog 49 #[.slice a1 n1 c1, .slice a2 n2 c2] w (GivesNo w) := by
  obtain ⟨B, hB⟩ : ∃ B, B = bitLen N := ⟨_, rfl⟩
  have hbits := bits_nm h
  have hbit := bit_nm h' 0 (by omega)
  rw [bit0, he] at hbit
  rw [← hB] at hbits
  have HB := mkHid hbits
  have HBI := mkHid hbit
  have hbl := h.bl
  rw [← hB] at hbl
  clear hbits hbit hB
  by_cases hb : 2048 < B
  · have t1 : decide (2048 < (B : Int)) = true := decide_eq_true (by omega)
    clear hb
    go_enter Try.func49, Try.ntmps49
    go_wp2_with (first
      | (go_at_call 28; (with_reducible refine HB.out.mono ?_); rintro e w' ⟨rfl, rfl⟩))
    go_ret2
    exact ⟨none, 0, rfl, Below.refl _ _⟩
  · have t1 : decide (2048 < (B : Int)) = false := decide_eq_false (by omega)
    clear hb
    go_enter Try.func49, Try.ntmps49
    go_wp2_with (first
      | (go_at_call 28; (with_reducible refine HB.out.mono ?_); rintro e w' ⟨rfl, rfl⟩)
      | (go_at_call 29; (with_reducible refine HBI.out.mono ?_); rintro e w' ⟨rfl, rfl⟩))
    go_ret2
    exact ⟨none, 0, rfl, Below.refl _ _⟩

set_option maxHeartbeats 2000000 in
theorem next_any (h : Nm w a1 n1 c1 m N) (h' : Nm w a2 n2 c2 k e) (hN : N < 2 ^ 128) (he : e % 2 = 1) (he2 : e < 18446744073709551616) :
    Calls Try.prog 49 #[.slice a1 n1 c1, .slice a2 n2 c2] w fun x w' => ∃ p, IsNext N e p ∧ p < 2 ^ 133 ∧ GivesCB w true 200 p x w' := by
  obtain ⟨G, hG⟩ := good_any e he he2
  obtain ⟨B, hB⟩ : ∃ B, B = bitLen N := ⟨_, rfl⟩
  have hbits := bits_nm h
  have hbit := bit_nm h' 0 (by omega)
  rw [bit0, he] at hbit
  have hb0 : bitLen N ≤ 128 := (bitLen_le _ _).2 hN
  have hb2 := @bl_lt2 N
  rw [← hB] at hbits hb0 hb2
  have HB := mkHid hbits
  have HBI := mkHid hbit
  have t1 : decide (2048 < (B : Int)) = false := decide_eq_false (by omega)
  have h200 : (2 : Nat) ^ 133 ≤ 2 ^ 200 := Nat.pow_le_pow_right (by omega) (by omega)
  have he200 : e < 2 ^ 200 := Nat.lt_of_lt_of_le he2 (by decide)
  have hE := h'.tight he200 (by omega)
  have hNn := h.tight (k := 200) (Nat.lt_of_lt_of_le hN (Nat.pow_le_pow_right (by omega) (by omega))) (by omega)
  obtain ⟨p0, hp0⟩ : ∃ p0, p0 = if N < 2 then 3 else N := ⟨_, rfl⟩
  have hst : startP N = p0 + (1 - p0 % 2) := by
    unfold startP
    by_cases h2 : N < 2
    · rw [if_pos h2] at hp0 ⊢; rw [hp0]
    · rw [if_neg h2] at hp0 ⊢; rw [hp0]
  have HG := mkHid hG
  have HST := mkHid hst
  have HP0 := mkHid hp0
  have HN := mkHid hN
  have H200 := mkHid h200
  clear hbits hbit hB he hst hp0 h h' he2 hG hN h200 he200
  go_enter Try.func49, Try.ntmps49
  go_upto_if 21 with (first
    | (go_at_call 28; (with_reducible refine HB.out.mono ?_); rintro e w' ⟨rfl, rfl⟩)
    | (go_at_call 29; (with_reducible refine HBI.out.mono ?_); rintro e w' ⟨rfl, rfl⟩)
    | (go_at_call 37; (with_reducible refine (norm_own hNn).mono ?_); rintro e w1 ⟨a3, n3, c3, rfl, hO, hb1⟩; have hOn : Cn w1 a3 n3 c3 200 N := ⟨hO.sl, hNn.lt, by omega⟩; have HB1 := mkHid (bits_nm hOn.nm))
    | (go_at_call 28; (with_reducible refine HB1.out.mono ?_); rintro e w' ⟨rfl, rfl⟩))
  obtain ⟨dd, hdd⟩ : ∃ dd, decide ((bitLen N : Int) < 2) = dd := ⟨_, rfl⟩
  rw [hdd]
  have hdd2 : (dd = true → N < 2) ∧ (dd = false → ¬ N < 2) := by
    rw [← hdd, decide_eq_true_iff, decide_eq_false_iff_not]
    have := @bl_lt2 N
    omega
  have HDD := mkHid hdd2
  clear hdd hdd2
  generalize (bitLen N : Int) = bb
  go_cut [6] from 22 to 22 (fun v wc => ∃ a n c, v = .slice a n c ∧ Own .u64 54 w.heap.size wc a n c (dig 18446744073709551616 p0) ∧ Below w.heap.size w wc)
  case first =>
    cases dd with
    | true =>
      have e0 := HP0.out
      rw [if_pos (HDD.out.1 rfl)] at e0
      have E0 := mkHid e0
      clear e0 HDD HP0
      go_wp2_with (first
        | (go_at_call 62; (with_reducible refine (of_own3 _).mono ?_); rintro e w2 ⟨a4, n4, c4, rfl, hO4, hb2⟩))
      go_meet
      case rel => exact ⟨a4, n4, c4, rfl, by rw [E0.out]; exact hO4.mono hb1.size, hb1.trans (hb2.mono hb1.size)⟩
    | false =>
      have e0 := HP0.out
      rw [if_neg (HDD.out.2 rfl)] at e0
      have E0 := mkHid e0
      clear e0 HDD HP0
      go_wp2
      go_meet
      case rel => exact ⟨a3, n3, c3, rfl, by rw [E0.out]; exact hO, hb1⟩
  case rest =>
    obtain ⟨a4, n4, c4, rfl, hO4, hbT⟩ := hcut
    have hp0 : 0 < p0 := by have := HP0.out; split at this <;> omega
    have hn4 : 0 < n4 := by rw [← hO4.len]; exact (lt_dig_length 18446744073709551616 (by omega) 0 p0).2 (by rw [Nat.pow_zero]; omega)
    have hc4 : 0 < c4 := by have := hO4.sl.le; omega
    obtain ⟨b4, rfl, hB4, hb4s, hf4⟩ := hO4.addr hc4
    obtain ⟨b4', o4, x, hae, hcx, hx⟩ := hO4.sl.get 0 hn4
    cases hae
    rw [Nat.zero_add] at hcx
    have hf0 := hf4 0
    have hlow := low_one p0 hp0 x hx.out
    have hxW : x < 18446744073709551616 := by obtain ⟨h, e⟩ := hx.out; rw [← e]; exact (dgW p0).at _ h
    obtain ⟨y, hy⟩ : ∃ y, y = x ||| 1 := ⟨_, rfl⟩
    have hor : bits .or .u64 (x : Int) 1 = (y : Int) := by rw [hy]; exact bits_or_u64_nat x 1 hxW (by omega)
    have hS := hO4.set 0 y hn4
    rw [hy, hlow, ← hy, ← HST.out] at hS
    have i0 : (0 : Int) < (n4 : Int) := by omega
    have hbS := hbT.setCell (p := ⟨b4, 0, none⟩) hB4 (.int .u64 (y : Int))
    have HS := mkHid hS
    have HBS := mkHid hbS
    clear hx hlow hy hf4 hb1 hO hOn HB1 HB HBI hb0 hb2 t1
    go_wp2
    go_loopg [6] (G + 1) (fun g pv wr => ∃ a n c p, pv = .slice a n c ∧ Cn wr a n c 200 p ∧ Hid (p % 2 = 1 ∧ startP N ≤ p ∧ p ≤ G ∧ G - p < g ∧ ∀ q, q % 2 = 1 → startP N ≤ q → q < p → okB e q = false) ∧ Below w.heap.size w wr)
    case atStart =>
      have hle := startP_le N G HN.out HG.out.lo
      refine ⟨_, _, _, startP N, rfl, ⟨HS.out.sl, ⟨?_⟩, by omega⟩, ⟨startP_odd N, Nat.le_refl _, hle, by omega, fun q _ h1 h2 => by omega⟩, HBS.out⟩
      have := HG.out.hi
      have := H200.out
      omega
    case round =>
      clear hS HS HBS hbS hor hcx hf0 hO4 hbT
      obtain ⟨a, n, c, p, rfl, hp, hi, hbT⟩ := hrel
      have hE' := hE.keep (hbT.mono (Nat.le_refl _))
      have hgl := mkHid (show p < 2 ^ 133 from Nat.lt_of_le_of_lt hi.out.2.2.1 HG.out.hi)
      by_cases hok : okB e p = true
      · have hsp : partedB p = false ∧ Nat.gcd (p - 1) e = 1 ∧ probB p = true := by
          unfold okB at hok
          rw [Bool.and_eq_true, Bool.and_eq_true, Bool.not_eq_true', decide_eq_true_iff] at hok
          exact ⟨hok.1.1, hok.1.2, hok.2⟩
        have hpt := parted_any (w := wr) hp.nm
        have HSP := mkHid hsp
        have HOK := mkHid hok
        clear hsp hok hpt
        go_wp2_with (first
          | (go_at_call 62; (with_reducible refine (of_nm1 200 (by omega) (by omega) _).mono ?_); rintro e w3 ⟨a5, n5, c5, rfl, hO, hb3⟩; have hp3 := hp.keep hb3; have hE3 := hE'.keep hb3)
          | (go_at_call 38; (with_reducible refine (sub_nm hp3.nm hO.nm).mono ?_); rintro e w4 ⟨a6, n6, c6, rfl, hL, hb4⟩; have hp4 := hp3.keep hb4; have hE4 := hE3.keep hb4; have HP4 := mkHid (parted_any hp4.nm); rw [HSP.out.1] at HP4)
          | (go_at_call 87; (with_reducible refine HP4.out.mono ?_); rintro e w5 ⟨rfl, hb5⟩; have hp5 := hp4.keep hb5; have hE5 := hE4.keep hb5; have hL5 := hL.keep hb5)
          | (go_at_call 42; (with_reducible refine (gcd_any hL5.nm hE5).mono ?_); rintro e w6 ⟨a7, n7, c7, rfl, hGc, hb6⟩; rw [HSP.out.2.1] at hGc; have hp6 := hp5.keep hb6)
          | (go_at_call 28; (with_reducible refine (bits_nm hGc.nm).mono ?_); rintro e w' ⟨rfl, rfl⟩; rw [show bitLen 1 = 1 from rfl])
          | (go_at_call 76; (with_reducible refine (mfew_any _).mono ?_); rintro e w' ⟨rfl, rfl⟩; have HP6 := mkHid (prob_any hp6.nm (by omega)); rw [HSP.out.2.2] at HP6)
          | (go_at_call 77; (with_reducible refine HP6.out.mono ?_); rintro e w7 ⟨rfl, hb7⟩; have hp7 := hp6.keep hb7))
        go_ret2
        refine ⟨p, ⟨hi.out.1, hi.out.2.1, HOK.out, hi.out.2.2.2.2⟩, hgl.out, a, n, c, rfl, hp7, ?_⟩
        have l1 := hb5.trans ((hb6.trans (hb7.mono hb6.size)).mono hb5.size)
        exact hbT.trans ((hb3.trans ((hb4.trans (l1.mono hb4.size)).mono hb3.size)).mono hbT.size)
      · have hnx : (p + 2 ≤ G) := by
          have h1 := HG.out.odd
          have h2 := hi.out.1
          have h3 := hi.out.2.2.1
          have h4 : p ≠ G := fun h => hok (by rw [h]; exact HG.out.ok)
          omega
        have HNX : Hid (((p + 2) % 2 = 1 ∧ startP N ≤ p + 2 ∧ p + 2 ≤ G ∧ G - (p + 2) < G - p ∧ ∀ q, q % 2 = 1 → startP N ≤ q → q < p + 2 → okB e q = false) ∧ p + 2 < 2 ^ 200) := by
          have h2 := hi.out
          have h5 := HG.out.hi
          have h6 := H200.out
          refine ⟨⟨by omega, by omega, hnx, by omega, fun q hq1 hq2 hq3 => ?_⟩, by omega⟩
          by_cases hqp : q < p
          · exact h2.2.2.2.2 q hq1 hq2 hqp
          · obtain rfl : q = p := by omega
            simpa using hok
        obtain ⟨pb, hpb⟩ : ∃ pb, pb = partedB p := ⟨_, rfl⟩
        obtain ⟨gc, hgc⟩ : ∃ gc, gc = Nat.gcd (p - 1) e := ⟨_, rfl⟩
        obtain ⟨pr, hpr⟩ : ∃ pr, pr = probB p := ⟨_, rfl⟩
        have hno : pb = true ∨ (pb = false ∧ gc ≠ 1) ∨ (pb = false ∧ gc = 1 ∧ pr = false) := by
          have hq : ¬ (partedB p = false ∧ Nat.gcd (p - 1) e = 1 ∧ probB p = true) := fun ⟨h1, h2, h3⟩ => hok (by unfold okB; rw [h1, h3, decide_eq_true h2]; rfl)
          rw [← hpb, ← hgc, ← hpr] at hq
          cases pb with
          | true => exact .inl rfl
          | false =>
            by_cases h1 : gc = 1
            · right; right
              refine ⟨rfl, h1, ?_⟩
              cases pr with
              | false => rfl
              | true => exact absurd ⟨rfl, h1, rfl⟩ hq
            · exact .inr (.inl ⟨rfl, h1⟩)
        have HPB := mkHid hpb
        have HGC := mkHid hgc
        have HPR := mkHid hpr
        clear hok hnx hpb hgc hpr
        rcases hno with rfl | ⟨rfl, h1⟩ | ⟨rfl, h1, rfl⟩
        · go_wp2_with (first
            | (go_at_call 62; (with_reducible refine (of_nm1 200 (by omega) (by omega) _).mono ?_); rintro e w3 ⟨a5, n5, c5, rfl, hO, hb3⟩; have hp3 := hp.keep hb3; have hE3 := hE'.keep hb3)
            | (go_at_call 38; (with_reducible refine (sub_nm hp3.nm hO.nm).mono ?_); rintro e w4 ⟨a6, n6, c6, rfl, hL, hb4⟩; have hp4 := hp3.keep hb4; have hE4 := hE3.keep hb4; have HP4 := mkHid (parted_any hp4.nm); rw [← HPB.out] at HP4)
            | (go_at_call 87; (with_reducible refine HP4.out.mono ?_); rintro e w5 ⟨rfl, hb5⟩; have hp5 := hp4.keep hb5; clear hO)
            | (go_at_call 62; (with_reducible refine (of_nm2 2 (by omega) (by omega) _).mono ?_); rintro e w8 ⟨a8, n8, c8, rfl, hT, hb8⟩; have hp8 := hp5.keep hb8)
            | (go_at_call 35; (with_reducible refine (add_nm hp8.nm hT.nm (by omega)).mono ?_); rintro e w9 ⟨a9, n9, c9, rfl, hA, hb9⟩))
          go_roundg (G - p)
          case measure => exact hi.out.2.2.2.1
          case rel =>
            have l1 := hb5.trans ((hb8.trans (hb9.mono hb8.size)).mono hb5.size)
            exact ⟨a9, n9, c9, p + 2, rfl, hA.tight HNX.out.2 (by omega), HNX.out.1, hbT.trans ((hb3.trans ((hb4.trans (l1.mono hb4.size)).mono hb3.size)).mono hbT.size)⟩
        · obtain ⟨gb, hgb⟩ : ∃ gb, gb = bitLen gc := ⟨_, rfl⟩
          have t2 : ((gb : Int) == 1) = false := beq_f (n := 1) (by rw [hgb]; exact fun h => h1 (bl_one.1 h))
          have HGB := mkHid hgb
          clear hgb h1
          go_wp2_with (first
            | (go_at_call 62; (with_reducible refine (of_nm1 200 (by omega) (by omega) _).mono ?_); rintro e w3 ⟨a5, n5, c5, rfl, hO, hb3⟩; have hp3 := hp.keep hb3; have hE3 := hE'.keep hb3)
            | (go_at_call 38; (with_reducible refine (sub_nm hp3.nm hO.nm).mono ?_); rintro e w4 ⟨a6, n6, c6, rfl, hL, hb4⟩; have hp4 := hp3.keep hb4; have hE4 := hE3.keep hb4; have HP4 := mkHid (parted_any hp4.nm); rw [← HPB.out] at HP4)
            | (go_at_call 87; (with_reducible refine HP4.out.mono ?_); rintro e w5 ⟨rfl, hb5⟩; have hp5 := hp4.keep hb5; have hE5 := hE4.keep hb5; have hL5 := hL.keep hb5)
            | (go_at_call 42; (with_reducible refine (gcd_any hL5.nm hE5).mono ?_); rintro e w6 ⟨a7, n7, c7, rfl, hGc, hb6⟩; rw [← HGC.out] at hGc; have hp6 := hp5.keep hb6)
            | (go_at_call 28; (with_reducible refine (bits_nm hGc.nm).mono ?_); rintro e w' ⟨rfl, rfl⟩; rw [← HGB.out])
            | (go_at_call 62; (with_reducible refine (of_nm2 2 (by omega) (by omega) _).mono ?_); rintro e w8 ⟨a8, n8, c8, rfl, hT, hb8⟩; have hp8 := hp6.keep hb8)
            | (go_at_call 35; (with_reducible refine (add_nm hp8.nm hT.nm (by omega)).mono ?_); rintro e w9 ⟨a9, n9, c9, rfl, hA, hb9⟩))
          go_roundg (G - p)
          case measure => exact hi.out.2.2.2.1
          case rel =>
            have l1 := hb5.trans ((hb6.trans ((hb8.trans (hb9.mono hb8.size)).mono hb6.size)).mono hb5.size)
            exact ⟨a9, n9, c9, p + 2, rfl, hA.tight HNX.out.2 (by omega), HNX.out.1, hbT.trans ((hb3.trans ((hb4.trans (l1.mono hb4.size)).mono hb3.size)).mono hbT.size)⟩
        · subst h1
          go_wp2_with (first
            | (go_at_call 62; (with_reducible refine (of_nm1 200 (by omega) (by omega) _).mono ?_); rintro e w3 ⟨a5, n5, c5, rfl, hO, hb3⟩; have hp3 := hp.keep hb3; have hE3 := hE'.keep hb3)
            | (go_at_call 38; (with_reducible refine (sub_nm hp3.nm hO.nm).mono ?_); rintro e w4 ⟨a6, n6, c6, rfl, hL, hb4⟩; have hp4 := hp3.keep hb4; have hE4 := hE3.keep hb4; have HP4 := mkHid (parted_any hp4.nm); rw [← HPB.out] at HP4)
            | (go_at_call 87; (with_reducible refine HP4.out.mono ?_); rintro e w5 ⟨rfl, hb5⟩; have hp5 := hp4.keep hb5; have hE5 := hE4.keep hb5; have hL5 := hL.keep hb5)
            | (go_at_call 42; (with_reducible refine (gcd_any hL5.nm hE5).mono ?_); rintro e w6 ⟨a7, n7, c7, rfl, hGc, hb6⟩; rw [← HGC.out] at hGc; have hp6 := hp5.keep hb6)
            | (go_at_call 28; (with_reducible refine (bits_nm hGc.nm).mono ?_); rintro e w' ⟨rfl, rfl⟩; rw [show bitLen 1 = 1 from rfl])
            | (go_at_call 76; (with_reducible refine (mfew_any _).mono ?_); rintro e w' ⟨rfl, rfl⟩; have HP6 := mkHid (prob_any hp6.nm (by omega)); rw [← HPR.out] at HP6)
            | (go_at_call 77; (with_reducible refine HP6.out.mono ?_); rintro e w7 ⟨rfl, hb7⟩; have hp7 := hp6.keep hb7)
            | (go_at_call 62; (with_reducible refine (of_nm2 2 (by omega) (by omega) _).mono ?_); rintro e w8 ⟨a8, n8, c8, rfl, hT, hb8⟩; have hp8 := hp7.keep hb8)
            | (go_at_call 35; (with_reducible refine (add_nm hp8.nm hT.nm (by omega)).mono ?_); rintro e w9 ⟨a9, n9, c9, rfl, hA, hb9⟩))
          go_roundg (G - p)
          case measure => exact hi.out.2.2.2.1
          case rel =>
            have l1 := hb5.trans ((hb6.trans ((hb7.trans ((hb8.trans (hb9.mono hb8.size)).mono hb7.size)).mono hb6.size)).mono hb5.size)
            exact ⟨a9, n9, c9, p + 2, rfl, hA.tight HNX.out.2 (by omega), HNX.out.1, hbT.trans ((hb3.trans ((hb4.trans (l1.mono hb4.size)).mono hb3.size)).mono hbT.size)⟩

end

end Go.Proofs.Ytaeamlldocbeeaa
