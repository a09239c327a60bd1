/- baileyref1: trim, From, To, Is, Cmp. -/
import Derived.Test.YtaeamlldocbeeaaLimb12
import Derived.Test.YtaeamlldocbeeaaNum7
namespace Go.Proofs.Ytaeamlldocbeeaa
open Go.RowKit Num

/-- a slice that reads a number's digits to the base 2^32 is the result -/
def GivesR (w : World) (v : Nat) (e : Ending) (w' : World) : Prop :=
  ∃ a n c, e = .returned (.slice a n c) ∧ Sl .u64 w' a n c (dig 4294967296 v) ∧ Below w.heap.size w w'

theorem rtrim_any {a : Option Addr} {n c : Nat} {xs : List Nat} {w : World} (h : Sl .u64 w a n c xs) :
    Calls Try.prog 58 #[.slice a n c] w fun e w' => e = .returned (.slice a (tlen xs) (tlen xs)) ∧ w = w' := by
  cases a with
  | none =>
    obtain rfl : c = 0 := h.nil rfl
    obtain rfl : n = 0 := by have := h.le; omega
    obtain rfl : xs = [] := List.eq_nil_of_length_eq_zero h.len
    clear h
    go_enter Try.func58, Try.ntmps58
    go_wp2
    refine wp_loop_once ?_
    go_wp2
    go_ret
    exact ⟨rfl, rfl⟩
  | some p =>
    by_cases hc0 : c = 0
    · subst hc0
      obtain rfl : n = 0 := by have := h.le; omega
      obtain rfl : xs = [] := List.eq_nil_of_length_eq_zero h.len
      clear h
      go_enter Try.func58, Try.ntmps58
      go_wp2
      refine wp_loop_once ?_
      go_wp2
      go_ret
      exact ⟨rfl, rfl⟩
    obtain ⟨b, o, s⟩ := p
    have hs := h.spot _ rfl (by omega)
    simp at hs
    subst hs
    have hm := h.cap
    have hc := h.le
    have HN := mkHid h.len
    have HR := mkHid h
    clear h
    go_enter Try.func58, Try.ntmps58
    go_wp2
    go_loop [3] (fun i => ∃ k : Nat, k ≤ n ∧ i = .int .i64 k ∧ Hid (tlen xs = tlen (xs.take k))) (fun i => (intOf i).toNat)
    case atStart => exact ⟨n, Nat.le_refl _, rfl, by show tlen xs = _; rw [List.take_of_length_le (by rw [HN.out]; exact Nat.le_refl _)]⟩
    case round =>
      obtain ⟨k, hk, rfl, ht⟩ := hrel
      by_cases h0 : 0 < k
      · obtain ⟨j, rfl⟩ : ∃ j, k = j + 1 := ⟨k - 1, by omega⟩
        have hj : j < xs.length := by rw [HN.out]; omega
        have hx := HR.out.cell j hj
        generalize hxv : xs[j] = x at hx
        have HX := mkHid hxv
        clear hxv
        by_cases hz : x = 0
        · have hb : ((x : Int) == 0) = true := by simp [hz]
          have HZ := mkHid hz
          clear hz
          go_wp2
          go_round
          case rel => exact ⟨j, by omega, by go_num, by show tlen xs = _; rw [ht.out]; exact tlen_take _ _ hj (HX.out.trans HZ.out)⟩
          case measure => simp [intOf]
        · have hb : ((x : Int) == 0) = false := by simp [hz]
          have HZ := mkHid hz
          clear hz
          go_wp2
          go_ret
          refine ⟨?_, rfl⟩
          rw [ht.out, tlen_ne _ _ hj (by rw [HX.out]; exact HZ.out)]
          rfl
      · obtain rfl : k = 0 := by omega
        go_wp2
        go_ret
        refine ⟨?_, rfl⟩
        rw [ht.out]; rfl

theorem rtrim_sl {a : Option Addr} {n c : Nat} {xs : List Nat} {w : World} (h : Sl .u64 w a n c xs) (hd : Dg 4294967296 xs) :
    Calls Try.prog 58 #[.slice a n c] w fun e w' => ∃ m, e = .returned (.slice a m m) ∧ m ≤ n ∧ Sl .u64 w a m m (dig 4294967296 (val 4294967296 xs)) ∧ w = w' := by
  refine (rtrim_any h).mono fun _ _ ⟨he, hw⟩ => ⟨_, he, by rw [← h.len]; exact tlen_le xs, ?_, hw⟩
  rw [dig_val _ (by omega) hd]
  have ht := h.take (tlen xs) (by rw [← h.len]; exact tlen_le xs)
  refine ⟨ht.len, Nat.le_refl _, by have := ht.cap; have := ht.le; omega, fun e => ?_, fun p e h0 => ht.spot p e (by have := ht.le; omega), ht.rd⟩
  have := ht.nil e
  have := ht.le
  omega

/-- the digits of a row of its own, trimmed -/
theorem rtrim_blk {T B b n : Nat} {xs : List Nat} {w : World} (h : Blk w b .u64 T xs) (hn : xs.length = n) (hc : n ≤ 9223372036854775807) (hd : Dg 4294967296 xs) (_hB : B ≤ b) :
    Calls Try.prog 58 #[.slice (some ⟨b, 0, none⟩) n n] w fun e w' => ∃ m, e = .returned (.slice (some ⟨b, 0, none⟩) m m) ∧ m ≤ n ∧ Sl .u64 w (some ⟨b, 0, none⟩) m m (dig 4294967296 (val 4294967296 xs)) ∧ w = w' :=
  rtrim_sl (h.sl n hn hc) hd

theorem from_any {a : Option Addr} {n c : Nat} {xs : List Nat} {w : World} (h1 : Sl .u64 w a n c xs) (hd : Dg 18446744073709551616 xs) (hn1 : n ≤ 1099511627776) :
    Calls Try.prog 15 #[.slice a n c] w (GivesR w (val 18446744073709551616 xs)) := by
  have hl := mkHid h1.len
  go_enter Try.func15, Try.ntmps15
  go_wp2_with (first
    | (at_make; refine wpList_mk rfl _ _ _ rfl 54 .u64 8 under_ref info_u64 (2 * n) rfl rfl (by omega) (by omega) (by omega) (by omega) ?_; intro b w2 hB hblk hbel))
  go_loopw [4] (fun iv wr => ∃ (i : Nat) (zs : List Nat), i ≤ n ∧ iv = .int .i64 i ∧ Hid (zs.length = 2 * i) ∧ Dg 4294967296 zs ∧
      Hid (val 4294967296 zs = val 18446744073709551616 (xs.take i)) ∧ Blk wr b .u64 54 (zs ++ List.replicate (2 * n - 2 * i) 0) ∧ Below w.heap.size w wr) (fun iv _ => n - (intOf iv).toNat)
  case atStart => exact ⟨0, [], Nat.zero_le _, rfl, rfl, Dg.nil, rfl, by simpa using hblk, hbel⟩
  case round =>
    clear hblk hbel
    obtain ⟨i, zs, hi, rfl, hz, dz, hv, hblk, hbel⟩ := hrel
    by_cases hlt : i < n
    · obtain ⟨b1, o1, x, rfl, hcx, hx⟩ := (h1.keep hbel).get i hlt
      have hxW : x < 18446744073709551616 := by obtain ⟨h, e⟩ := hx.out; rw [← e]; exact hd.at _ h
      obtain ⟨lo, hlo⟩ : ∃ lo, lo = x % 4294967296 := ⟨_, rfl⟩
      obtain ⟨hi', hhi⟩ : ∃ hi, hi = x / 4294967296 := ⟨_, rfl⟩
      have e1 : (x : Int) % 4294967296 = (lo : Int) := by omega
      have e2 : (x : Int) / 4294967296 = (hi' : Int) := by omega
      have hloV : lo < 4294967296 := by omega
      have hhiV : hi' < 4294967296 := by omega
      have hxe : Hid (lo + 4294967296 * hi' = x) := by show _ = _; omega
      clear hlo hhi
      obtain ⟨z0, hcb, hfb, _⟩ := hblk.get (2 * i) (by rw [length_grow zs (2 * i) (2 * n) 0 hz.out (by omega)]; omega)
      obtain ⟨z1, hcb1, hfb1, _⟩ := hblk.get (2 * i + 1) (by rw [length_grow zs (2 * i) (2 * n) 0 hz.out (by omega)]; omega)
      have hcx2 := (h1.keep (hbel.setCell (p := ⟨b, 2 * i, none⟩) hB (.int .u64 (lo : Int)))).cell i (by rw [hl.out]; exact hlt)
      obtain ⟨hxl, hxv⟩ := hx.out
      rw [hxv] at hcx2
      have HXV := mkHid hxv
      clear hxv
      go_wp2
      go_roundw
      case rel =>
        refine ⟨i + 1, zs ++ [lo, hi'], by omega, by go_num, ?_, dz.append (Dg.cons hloV (Dg.cons hhiV Dg.nil)), ?_, ?_, (hbel.setCell hB _).setCell hB _⟩
        · show _ = _
          rw [List.length_append, hz.out]; simp; omega
        · show _ = _
          rw [val_two, hz.out, hxe.out, pow_VW, hv.out, val_take_succ _ _ _ hxl, HXV.out]
        · have := (hblk.set (2 * i) lo).set (2 * i + 1) hi'
          rw [set_grow2 zs (2 * i) (2 * n) lo hi' hz.out (by omega)] at this
          exact this
      case measure => simp [intOf]; omega
    · obtain rfl : i = n := by omega
      rw [Nat.sub_self, List.replicate_zero, List.append_nil] at hblk
      have hval : Hid (val 4294967296 zs = val 18446744073709551616 xs) := by
        show _ = _
        rw [hv.out, List.take_of_length_le (by rw [hl.out]; exact Nat.le_refl _)]
      go_wp2_with (go_at_call 58; (with_reducible refine (rtrim_blk hblk hz.out (by omega) dz hB).mono ?_); rintro e w' ⟨m', rfl, hm', ho, rfl⟩)
      go_ret
      exact ⟨_, _, _, rfl, by rw [← hval.out]; exact ho, hbel⟩

end Go.Proofs.Ytaeamlldocbeeaa
