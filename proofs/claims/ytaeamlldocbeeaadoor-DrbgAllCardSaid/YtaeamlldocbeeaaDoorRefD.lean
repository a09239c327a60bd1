/- RefD: Ref8, Ref9. -/
import Derived.Test.YtaeamlldocbeeaaDoorRefC
import Derived.Test.YtaeamlldocbeeaaDoorNumA

/- baileyref1: small, times. -/

namespace Go.Proofs.YtaeamlldocbeeaaDoor
open Go.RowKit Num

/-- a number of the reference and a digit are the results -/
def GivesRN (w : World) (q r : Nat) (e : Ending) (w' : World) : Prop :=
  ∃ a n c, e = .returned (.tuple #[.slice a n c, .int .u64 (r : Int)]) ∧ Sl .u64 w' a n c (dig 4294967296 q) ∧ Below w.heap.size w w'

set_option maxHeartbeats 400000 in
theorem rsmall_any {a1 : Option Addr} {n c1 v : Nat} {w : World} (h1 : Sl .u64 w a1 n c1 (dig 4294967296 v)) (hn1 : n ≤ 1099511627776) (d : Nat) (hd0 : 0 < d) (hdV : d ≤ 4294967296) :
    Calls Tryd.prog 62 #[.slice a1 n c1, .int .u64 (d : Int)] w (GivesRN w (v / d) (v % d)) := by
  have hd1 := Dg.dig 4294967296 (by omega) v
  have vX := mkHid (val_dig 4294967296 (by omega) v)
  have hl := mkHid h1.len
  generalize dig 4294967296 v = xs at *
  go_enter Tryd.func62, Tryd.ntmps62
  go_wp2_with (first
    | (at_make; refine wpList_mk rfl _ _ _ rfl 47 .u64 8 under_ref info_u64 n rfl rfl (by omega) (by omega) (by omega) (by omega) ?_; intro b w2 hB hblk hbel))
  go_loopw [7, 8] (fun rv iv wr => ∃ (j r : Nat) (qs : List Nat), j ≤ n ∧ rv = .int .u64 r ∧ iv = .int .i64 ((j : Int) - 1) ∧ Hid (j + qs.length = n) ∧ Dg 4294967296 qs ∧ r < d ∧
      Hid (val 4294967296 qs = val 4294967296 (xs.drop j) / d ∧ r = val 4294967296 (xs.drop j) % d) ∧ Blk wr b .u64 47 (List.replicate j 0 ++ qs) ∧ Below w.heap.size w wr) (fun _ iv _ => (intOf iv + 1).toNat)
  case atStart =>
    refine ⟨n, 0, [], Nat.le_refl _, rfl, rfl, ?_, Dg.nil, hd0, ?_, by simpa using hblk, hbel⟩
    · show _ = _
      simp
    · show _ ∧ _
      rw [List.drop_of_length_le (by rw [hl.out]; exact Nat.le_refl _)]
      simp [val]
  case round =>
    clear hblk hbel
    obtain ⟨j, r, qs, hj, rfl, rfl, hq, dq, hrd, hv, hblk, hbel⟩ := hrel
    cases j with
    | zero =>
      rw [show ((0 : Nat) : Int) - 1 = -1 from rfl]
      rw [List.replicate_zero, List.nil_append] at hblk
      have hval : Hid (val 4294967296 qs = v / d ∧ r = v % d) := by
        have := hv.out
        rw [List.drop_zero, vX.out] at this
        exact this
      have hqn : Hid (qs.length = n) := by have := hq.out; show _ = _; omega
      go_wp2_with (go_at_call 27; (with_reducible refine (rtrim_blk hblk hqn.out (by omega) dq hB).mono ?_); rintro e w' ⟨m', rfl, hm', ho, rfl⟩)
      go_ret2
      refine ⟨some ⟨b, 0, none⟩, m', m', ?_, by rw [← hval.out.1]; exact ho, hbel⟩
      rw [← hval.out.2]; rfl
    | succ j =>
      rw [show ((j + 1 : Nat) : Int) - 1 = (j : Int) by omega]
      obtain ⟨b1, o1, x, rfl, hcx, hx⟩ := (h1.keep hbel).get j (by omega)
      have hxV : x < 4294967296 := by obtain ⟨h, e⟩ := hx.out; rw [← e]; exact hd1.at _ h
      obtain ⟨z0, hcb, hfb, _⟩ := hblk.get j (by rw [List.length_append, List.length_replicate]; have := hq.out; omega)
      obtain ⟨p, hp⟩ : ∃ p, p = r * 4294967296 := ⟨_, rfl⟩
      obtain ⟨s, hs⟩ : ∃ s, s = p + x := ⟨_, rfl⟩
      obtain ⟨q', hq'⟩ : ∃ q', q' = s / d := ⟨_, rfl⟩
      obtain ⟨r', hr'⟩ : ∃ r', r' = s % d := ⟨_, rfl⟩
      have hsW : s < 18446744073709551616 := by omega
      have f1 : IntKind.u64.wrap ((r : Int) * 4294967296) = (p : Int) := by rw [IntKind.wrap_u64]; omega
      have f2 : IntKind.u64.wrap ((p : Int) + (x : Int)) = (s : Int) := by rw [IntKind.wrap_u64]; omega
      have f3 : (s : Int) / (d : Int) = (q' : Int) := by rw [hq', Int.natCast_ediv]
      have f4 : (s : Int) % (d : Int) = (r' : Int) := by rw [hr', Int.natCast_emod]
      have f5 : ((d : Int) == 0) = false := beq0_f (by omega)
      have hr'd : r' < d := by rw [hr']; exact Nat.mod_lt _ hd0
      have hst : Hid (q' < 4294967296 ∧ q' + 4294967296 * (val 4294967296 (xs.drop (j + 1)) / d) = (x + 4294967296 * val 4294967296 (xs.drop (j + 1))) / d ∧ r' = (x + 4294967296 * val 4294967296 (xs.drop (j + 1))) % d) := by
        rw [hs, hp, hv.out.2] at hq' hr'
        refine ⟨by rw [hq']; exact small_digit _ _ _ _ hd0 hxV, ?_⟩
        exact small_step _ _ _ _ _ _ hd0 hq' hr'
      clear hq' hr' hs hp
      have hqV : q' < 4294967296 := hst.out.1
      go_wp2
      go_roundw
      case rel =>
        refine ⟨j, r', q' :: qs, by omega, by rw [f4], by go_num, ?_, Dg.cons hqV dq, hr'd, ?_, ?_, hbel.setCell hB _⟩
        · show _ = _
          have := hq.out
          rw [List.length_cons]; omega
        · show _ ∧ _
          obtain ⟨h, e⟩ := hx.out
          rw [val_drop _ _ _ h, e, val, hv.out.1]
          exact ⟨hst.out.2.1, hst.out.2.2⟩
        · have := hblk.set j q'
          rw [set_top] at this
          exact this
      case measure => simp [intOf]

theorem times_step (B P V vt x m c lo hi s : Nat) (hv : V + P * c = vt * m) (hs : s = c + x * m) (h1 : lo = s % B) (h2 : hi = s / B) :
    V + P * lo + P * B * hi = (vt + P * x) * m := by
  have e : lo + B * hi = c + x * m := by rw [h1, h2, ← hs]; exact Nat.mod_add_div _ _
  rw [Nat.add_assoc, Nat.mul_assoc, ← Nat.mul_add, e, Nat.mul_add, ← Nat.add_assoc, hv, Nat.add_mul, Nat.mul_assoc]

set_option maxHeartbeats 400000 in
theorem rtimes_any {a1 : Option Addr} {n1 c1 u : Nat} {w : World} (h1 : Sl .u64 w a1 n1 c1 (dig 4294967296 u)) (hn1 : n1 ≤ 1099511627776) (m : Nat) (hm : m < 4294967296) :
    Calls Tryd.prog 63 #[.slice a1 n1 c1, .int .u64 (m : Int)] w fun e w' => ∃ b zs, e = .returned (.slice (some ⟨b, 0, none⟩) (n1 + 1) (n1 + 1)) ∧
      w.heap.size ≤ b ∧ zs.length = n1 + 1 ∧ Dg 4294967296 zs ∧ val 4294967296 zs = u * m ∧ Blk w' b .u64 47 zs ∧ Below w.heap.size w w' := by
  have dX := Dg.dig 4294967296 (by omega) u
  have vX := mkHid (val_dig 4294967296 (by omega) u)
  have hl1 := mkHid h1.len
  generalize dig 4294967296 u = X at *
  go_enter Tryd.func63, Tryd.ntmps63
  go_wp2_with (first
    | (at_make; refine wpList_mk rfl _ _ _ rfl 47 .u64 8 under_ref info_u64 (n1 + 1) rfl rfl (by omega) (by omega) (by omega) (by omega) ?_; intro b w2 hB hblk hbel))
  go_loopw [6, 7] (fun cv iv wr => ∃ (i c : Nat) (zs : List Nat), i ≤ n1 ∧ c < 4294967296 ∧ cv = .int .u64 c ∧ iv = .int .i64 i ∧ Hid (zs.length = i) ∧ Dg 4294967296 zs ∧
      Hid (val 4294967296 zs + 4294967296 ^ i * c = val 4294967296 (X.take i) * m) ∧ Blk wr b .u64 47 (zs ++ List.replicate (n1 + 1 - i) 0) ∧ Below w.heap.size w wr) (fun _ iv _ => n1 - (intOf iv).toNat)
  case atStart =>
    exact ⟨0, 0, [], Nat.zero_le _, by omega, rfl, rfl, rfl, Dg.nil, by show _ = _; simp [val], by simpa using hblk, hbel⟩
  case round =>
    clear hblk hbel
    obtain ⟨i, c, zs, hi, hc, rfl, rfl, hz, dz, hv, hblk, hbel⟩ := hrel
    by_cases hlt : i < n1
    · obtain ⟨z0, hcb, hfb, _⟩ := hblk.get i (by rw [length_grow zs i (n1 + 1) 0 hz.out (by omega)]; omega)
      obtain ⟨b1, o1, x, rfl, hcx, hx⟩ := (h1.keep hbel).get i hlt
      have hxV : x < 4294967296 := by obtain ⟨h, e⟩ := hx.out; rw [← e]; exact dX.at _ h
      obtain ⟨p, hp⟩ : ∃ p, p = x * m := ⟨_, rfl⟩
      obtain ⟨s, hs⟩ : ∃ s, s = c + p := ⟨_, rfl⟩
      obtain ⟨lo, hlo⟩ : ∃ lo, lo = s % 4294967296 := ⟨_, rfl⟩
      obtain ⟨hh, hhi⟩ : ∃ hh, hh = s / 4294967296 := ⟨_, rfl⟩
      obtain ⟨q1, q2, q3, _⟩ := rmul_place 4294967296 x m 0 c hxV hm (by omega) hc s lo hh (by omega) hlo hhi
      have hsW : s < 18446744073709551616 := q1
      have f1 := u64_mul_in x m (by omega) p hp
      have f2 : IntKind.u64.wrap ((c : Int) + (p : Int)) = (s : Int) := u64_in c p (by omega) s hs
      have f4 : (s : Int) % 4294967296 = (lo : Int) := by omega
      have f5 : (s : Int) / 4294967296 = (hh : Int) := by omega
      have st := mkHid (times_step 4294967296 _ _ _ x m c lo hh s hv.out (by omega) hlo hhi)
      clear hlo hhi q1 hp hs
      go_wp2
      go_roundw
      case rel =>
        refine ⟨i + 1, hh, zs ++ [lo], by omega, q3, rfl, by go_num, ?_, dz.snoc q2, ?_, ?_, hbel.setCell hB _⟩
        · show _ = _
          rw [List.length_append, hz.out]; rfl
        · show _ = _
          obtain ⟨h, e⟩ := hx.out
          rw [val_snoc, hz.out, val_take_succ _ _ _ h, e, Nat.pow_succ]
          exact st.out
        · have := hblk.set i lo
          rw [set_grow zs i (n1 + 1) lo 0 hz.out (by omega)] at this
          exact this
      case measure => simp [intOf]; omega
    · obtain rfl : i = n1 := by omega
      have hval : Hid (val 4294967296 (zs ++ [c]) = u * m) := by
        show _ = _
        rw [val_snoc, hz.out, hv.out, List.take_of_length_le (by rw [hl1.out]; omega), vX.out]
      obtain ⟨z0, hcb, hfb, _⟩ := hblk.get i (by rw [length_grow zs i (i + 1) 0 hz.out (by omega)]; omega)
      go_wp2
      go_ret
      have hb2 := hblk.set i c
      rw [set_grow zs i (i + 1) c 0 hz.out (by omega), Nat.sub_self, List.replicate_zero, List.append_nil] at hb2
      exact ⟨_, _, rfl, hB, by rw [List.length_append, hz.out]; rfl, dz.snoc hc, hval.out, hb2, hbel.setCell hB _⟩

end Go.Proofs.YtaeamlldocbeeaaDoor

/- baileyref1: less: a multiple taken off, if it goes. -/

namespace Go.Proofs.YtaeamlldocbeeaaDoor
open Go.RowKit Num

/-- nothing but two blocks may have turned -/
structure Only2 (w w' : World) (g1 g2 : Nat) : Prop where
  below : ∀ B, B ≤ g1 → B ≤ g2 → B ≤ w.heap.size → Below B w w'
  same : ∀ b, b < w.heap.size → b ≠ g1 → b ≠ g2 → w'.heap[b]? = w.heap[b]?
  size : w.heap.size ≤ w'.heap.size

theorem Only2.refl (w : World) (g1 g2 : Nat) : Only2 w w g1 g2 := ⟨fun B _ _ _ => Below.refl B w, fun _ _ _ _ => rfl, Nat.le_refl _⟩

theorem Only2.trans {w w' w'' : World} {g1 g2 : Nat} (h : Only2 w w' g1 g2) (k : Only2 w' w'' g1 g2) : Only2 w w'' g1 g2 :=
  ⟨fun B h1 h2 h3 => (h.below B h1 h2 h3).trans (k.below B h1 h2 (by have := h.size; omega)), fun b h1 h2 h3 => (k.same b (by have := h.size; omega) h2 h3).trans (h.same b h1 h2 h3), Nat.le_trans h.size k.size⟩

theorem Only2.set1 (w : World) (g1 g2 i : Nat) (v : Value) : Only2 w (w.setCell ⟨g1, i, none⟩ v) g1 g2 :=
  ⟨fun B h1 _ _ => (Below.refl B w).setCell (p := ⟨g1, i, none⟩) h1 v, fun b _ h2 _ => Below.heap_setCell w ⟨g1, i, none⟩ v b h2, by simp [World.setCell]⟩

theorem Only2.set2 (w : World) (g1 g2 i : Nat) (v : Value) : Only2 w (w.setCell ⟨g2, i, none⟩ v) g1 g2 :=
  ⟨fun B _ h1 _ => (Below.refl B w).setCell (p := ⟨g2, i, none⟩) h1 v, fun b _ _ h2 => Below.heap_setCell w ⟨g2, i, none⟩ v b h2, by simp [World.setCell]⟩

theorem Blk.only2 {w w' : World} {b g1 g2 : Nat} {k : IntKind} {T : TypeId} {xs : List Nat} (h : Blk w b k T xs) (ho : Only2 w w' g1 g2) (h1 : b ≠ g1) (h2 : b ≠ g2) : Blk w' b k T xs :=
  (ho.same b h.lt h1 h2).trans h

/-- copy of a slice into a row -/
theorem run_cp {P : Program} {w : World} (dT sT ty : TypeId) (elem : TypeId) (hu : P.underlying dT = some (.slice elem)) (hsz : (P.info? elem).map (·.size) = some 1)
    (g off dLen dCap : Nat) (sa : Option Addr) (sLen sCap : Nat)
    (k : IntKind) (us ys : List Nat) (hblk : Blk w g k elem us) (hsl : Sl k w sa sLen sCap ys) (hpos : 0 < sLen) (hlen : sLen ≤ dLen) (hfit : off + sLen ≤ us.length) :
    ∃ w', (Builtin.copy_ #[dT, sT] ty #[.slice (some ⟨g, off, none⟩) dLen dCap, .slice sa sLen sCap]).run P w = .ok (goInt sLen) w' ∧
      Blk w' g k elem (us.take off ++ (ys ++ us.drop (off + sLen))) ∧ (∀ g2, Only2 w w' g g2) := by
  obtain ⟨b, q, rfl⟩ := hsl.addr hpos
  have hys := hsl.len
  have hrun := run_copy_row (P := P) w dT sT ty elem g off dLen dCap ⟨b, q, none⟩ sLen sCap (U k us).toArray elem (U k ys) hu hsz hblk
    (by rw [U_length, hys]; exact (Nat.min_eq_left hlen).symm)
    (fun j v hj => by
      rw [Addr.add_lit]
      rw [U_get] at hj
      obtain ⟨y, hy, rfl⟩ := Option.map_eq_some_iff.1 hj
      obtain ⟨hj', rfl⟩ := List.getElem?_eq_some_iff.1 hy
      exact hsl.cell j hj')
    (by simp [U_length, hys]; exact hfit) (U_oneCell k ys)
  rw [U_length, hys] at hrun
  refine ⟨_, hrun, ?_, ?_⟩
  · have := setRow_heap w g (U k us).toArray ((U k us).toArray.toList.take off ++ U k ys ++ (U k us).toArray.toList.drop (off + sLen)).toArray elem (0, 0) hblk
    unfold Blk
    rw [this]
    simp [U, List.map_append, List.map_take, List.map_drop]
  · intro g2
    refine ⟨fun B h1 _ _ => below_setRow (Below.refl B w) h1 _, fun b' _ h1 _ => setRow_other w g b' _ (by omega), by simp [World.setRow]⟩

end Go.Proofs.YtaeamlldocbeeaaDoor
