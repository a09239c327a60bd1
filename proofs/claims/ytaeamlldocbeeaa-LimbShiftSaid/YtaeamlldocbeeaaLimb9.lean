/- limb: takes, gives. -/
import Derived.Test.YtaeamlldocbeeaaLimb8
namespace Go.Proofs.Ytaeamlldocbeeaa
open Go.RowKit Num

theorem grown_set {w wr : World} {b : Nat} (h : w.grownBy wr (some b)) (i : Nat) (v : Value) : w.grownBy (wr.setCell ⟨b, i, none⟩ v) (some b) :=
  ⟨h.os, h.tape, h.output, by rw [World.size_setCell]; exact h.size, fun k hk hne => by
    rw [Below.heap_setCell _ _ _ _ (by intro e; exact hne (by rw [e]))]; exact h.block k hk hne⟩

theorem grown_trans {a b c : World} {r : Option Nat} (h : a.grownBy b r) (k : b.grownBy c r) : a.grownBy c r :=
  ⟨k.os.trans h.os, k.tape.trans h.tape, k.output.trans h.output, Nat.le_trans h.size k.size, fun i hi hne => (k.block i (Nat.lt_of_lt_of_le hi h.size) hne).trans (h.block i hi hne)⟩

theorem grown_refl (w : World) (r : Option Nat) : w.grownBy w r := ⟨rfl, rfl, rfl, Nat.le_refl _, fun _ _ _ => rfl⟩

theorem grown_drewN (w : World) (m : Nat) (r : Option Nat) : w.grownBy (w.drewN m) r := ⟨rfl, rfl, rfl, Nat.le_refl _, fun _ _ _ => rfl⟩

theorem grown_below {B b : Nat} {w w' : World} (h : w.grownBy w' (some b)) (hb : B ≤ b) (hB : B ≤ w.heap.size) : Below B w w' :=
  ⟨h.os, h.tape, h.output, h.size, fun k hk => h.block k (by omega) (by simp; omega)⟩

theorem Row.grown {w w' : World} {b b' : Nat} {T : TypeId} {vs : List Value} (h : Row w b T vs) (hg : w.grownBy w' (some b')) (hne : b ≠ b') : Row w' b T vs :=
  (hg.block b h.lt (by simpa using hne)).trans h

theorem Blk.grown {w w' : World} {b b' : Nat} {k : IntKind} {T : TypeId} {xs : List Nat} (h : Blk w b k T xs) (hg : w.grownBy w' (some b')) (hne : b ≠ b') : Blk w' b k T xs :=
  (hg.block b h.lt (by simpa using hne)).trans h

theorem Sl.grown {k : IntKind} {w w' : World} {a : Option Addr} {n c b : Nat} {xs : List Nat} (h : Sl k w a n c xs) (hg : w.grownBy w' (some b)) (hne : ∀ p, a = some p → p.block ≠ b) : Sl k w' a n c xs := by
  refine ⟨h.len, h.le, h.cap, h.nil, h.spot, ?_⟩
  intro i hi
  obtain ⟨b', o', e, hc⟩ := h.rd i hi
  have := hne _ e
  exact ⟨b', o', e, hg.cell hc (by simpa using this)⟩

/-- block b begins with the numbers xs; behind them lie the cells tl -/
def Pre (w : World) (b : Nat) (k : IntKind) (T : TypeId) (xs : List Nat) (tl : List Value) : Prop := Row w b T (U k xs ++ tl)

theorem Pre.get {w : World} {b : Nat} {k : IntKind} {T : TypeId} {xs : List Nat} {tl : List Value} (h : Pre w b k T xs tl) (i : Nat) (hi : i < xs.length) :
    ∃ x : Nat, w.cell? ⟨b, i, none⟩ = some (.int k (x : Int)) ∧ w.frozen? ⟨b, i, none⟩ = false ∧ Hid (∃ h : i < xs.length, xs[i] = x) := by
  refine ⟨xs[i], ?_, Row.frozen h i, hi, rfl⟩
  rw [Row.cell h, List.getElem?_append_left (by rw [U_length]; exact hi), U_get, List.getElem?_eq_getElem hi]; rfl

theorem Pre.set {w : World} {b : Nat} {k : IntKind} {T : TypeId} {xs : List Nat} {tl : List Value} (h : Pre w b k T xs tl) (i x : Nat) (hi : i < xs.length) :
    Pre (w.setCell ⟨b, i, none⟩ (.int k (x : Int))) b k T (xs.set i x) tl := by
  have := Row.set h i (.int k (x : Int))
  rw [List.set_append_left _ _ (by rw [U_length]; exact hi), ← U_set] at this
  exact this

theorem Pre.keep {w w' : World} {b : Nat} {k : IntKind} {T : TypeId} {xs : List Nat} {tl : List Value} (h : Pre w b k T xs tl) (hb : Below w.heap.size w w') : Pre w' b k T xs tl := Row.keep h hb

theorem Pre.grown {w w' : World} {b b' : Nat} {k : IntKind} {T : TypeId} {xs : List Nat} {tl : List Value} (h : Pre w b k T xs tl) (hg : w.grownBy w' (some b')) (hne : b ≠ b') : Pre w' b k T xs tl := Row.grown h hg hne

theorem Own.pre {k : IntKind} {T : TypeId} {B : Nat} {w : World} {a : Option Addr} {n c : Nat} {xs : List Nat} (h : Own k T B w a n c xs) (hn : 0 < c) :
    ∃ b tl, a = some ⟨b, 0, none⟩ ∧ B ≤ b ∧ n + tl.length = c ∧ c ≤ 9223372036854775807 ∧ Pre w b k T xs tl := by
  rcases h.row with ⟨_, _, hc⟩ | ⟨b, ys, e, hB, hl, hc, hk⟩
  · omega
  · exact ⟨b, ys, e, hB, hl, hc, hk⟩

theorem Pre.own {k : IntKind} {T : TypeId} {B : Nat} {w : World} {b : Nat} {xs : List Nat} {tl : List Value} (h : Pre w b k T xs tl) (hB : B ≤ b) (n c : Nat) (hn : xs.length = n) (hc : n + tl.length = c) (hm : c ≤ 9223372036854775807) :
    Own k T B w (some ⟨b, 0, none⟩) n c xs := ⟨hn, .inr ⟨b, tl, rfl, hB, hc, hm, h⟩⟩

/-- takes: q times Y off a part of a row -/
theorem takes_any {b o n c c2 : Nat} {tl : List Value} {a2 : Option Addr} {zs Y : List Nat} {w : World} (hblk0 : Pre w b .u64 54 zs tl) (dz0 : Dg 18446744073709551616 zs) (ho : o + n + 1 ≤ zs.length)
    (hY : Sl .u64 w a2 n c2 Y) (dY : Dg 18446744073709551616 Y) (hne : ∀ p, a2 = some p → p.block ≠ b) (hn1 : n ≤ 1099511627776) (q : Nat) (hq : q < 18446744073709551616) :
    Calls Try.prog 65 #[.slice (some ⟨b, o, none⟩) (n + 1) c, .slice a2 n c2, .int .u64 (q : Int)] w fun e w' => ∃ (bo : Nat) (us : List Nat), e = .returned (.bool (decide (0 < bo))) ∧ bo ≤ 1 ∧
      us.length = zs.length ∧ Dg 18446744073709551616 us ∧ us.take o = zs.take o ∧ us.drop (o + n + 1) = zs.drop (o + n + 1) ∧
      val 18446744073709551616 (seg us o (n + 1)) + q * val 18446744073709551616 Y = val 18446744073709551616 (seg zs o (n + 1)) + 18446744073709551616 ^ (n + 1) * bo ∧ Pre w' b .u64 54 us tl ∧ w.grownBy w' (some b) := by
  have HO := mkHid ho
  clear ho
  have HYL := mkHid hY.len
  go_enter Try.func65, Try.ntmps65
  go_wp2
  go_loopw [7, 8, 16] (fun cv bv iv wr => ∃ (i ca bo : Nat) (us : List Nat), i ≤ n ∧ ca < 18446744073709551616 ∧ bo ≤ 1 ∧ cv = .int .u64 ca ∧ bv = .int .u64 bo ∧ iv = .int .i64 i ∧ Hid (us.length = zs.length) ∧ Dg 18446744073709551616 us ∧
    Hid (us.take o = zs.take o) ∧ Hid (us.drop (o + i) = zs.drop (o + i)) ∧ Hid (val 18446744073709551616 (seg us o i) + q * val 18446744073709551616 (Y.take i) = val 18446744073709551616 (seg zs o i) + 18446744073709551616 ^ i * (ca + bo)) ∧
    Pre wr b .u64 54 us tl ∧ w.grownBy wr (some b)) (fun _ _ iv _ => n - (intOf iv).toNat)
  case atStart =>
    exact ⟨0, 0, 0, zs, Nat.zero_le _, by omega, by omega, rfl, rfl, rfl, rfl, dz0, rfl, rfl, by show _ = _; simp [seg, val], hblk0, grown_refl _ _⟩
  case round =>
    obtain ⟨i, ca, bo, us, hi, hca, hbo, rfl, rfl, rfl, hu, du, ht, hd, hv, hblk, hg⟩ := hrel
    by_cases hlt : i < n
    · obtain ⟨b2, o2, v, rfl, hcv, hv'⟩ := (hY.grown hg hne).get i hlt
      have hvW : v < 18446744073709551616 := by obtain ⟨h, e⟩ := hv'.out; rw [← e]; exact dY.at _ h
      obtain ⟨x, hcx, hfx, hx⟩ := hblk.get (o + i) (by rw [hu.out]; have := HO.out; omega)
      have hxW : x < 18446744073709551616 := by obtain ⟨h, e⟩ := hx.out; rw [← e]; exact du.at _ h
      obtain ⟨hi', g1⟩ : ∃ hi, hi = q * v / 18446744073709551616 := ⟨_, rfl⟩
      obtain ⟨lo, g2⟩ : ∃ lo, lo = q * v % 18446744073709551616 := ⟨_, rfl⟩
      obtain ⟨l2, g3⟩ : ∃ l2, l2 = (lo + ca + 0) % 18446744073709551616 := ⟨_, rfl⟩
      obtain ⟨cc, g4⟩ : ∃ cc, cc = (lo + ca + 0) / 18446744073709551616 := ⟨_, rfl⟩
      obtain ⟨s, g5⟩ : ∃ s, s = (x + 18446744073709551616 - l2 - bo) % 18446744073709551616 := ⟨_, rfl⟩
      obtain ⟨bo', g6⟩ : ∃ bo', bo' = if x < l2 + bo then 1 else 0 := ⟨_, rfl⟩
      obtain ⟨st, hcc⟩ := takes_step 18446744073709551616 _ _ _ _ x v q s hi' lo l2 cc ca bo bo' hv.out hxW hq hvW hca hbo g1 g2 g3 g4 g5 g6
      have hloW : lo < 18446744073709551616 := by rw [g2]; exact Nat.mod_lt _ (by omega)
      have hl2W : l2 < 18446744073709551616 := by rw [g3]; exact Nat.mod_lt _ (by omega)
      have hsW : s < 18446744073709551616 := by rw [g5]; exact Nat.mod_lt _ (by omega)
      have hbo' : bo' ≤ 1 := by rw [g6]; split <;> omega
      have M := mkHid (fun w => mul64_o q v hq hvW hi' lo g1 g2 w)
      have a1 := add64_run00 lo ca hloW hca l2 cc g3 g4
      have a2 := sub64_run x l2 bo hxW hl2W hbo s bo' g5 g6
      obtain ⟨ca', g7⟩ : ∃ ca', ca' = hi' + cc := ⟨_, rfl⟩
      have w1 := u64_in hi' cc hcc ca' g7
      rw [← g7] at st hcc
      have ST := mkHid st
      clear g1 g2 g3 g4 g5 g6 g7 st
      go_wp2_with (go_at_call 73; (with_reducible refine (M.out _).mono ?_); rintro e w' ⟨rfl, rfl⟩)
      go_roundw
      case rel =>
        obtain ⟨hp, ex⟩ := hx.out
        obtain ⟨hp2, ev⟩ := hv'.out
        refine ⟨i + 1, ca', bo', us.set (o + i) s, by omega, hcc, hbo', rfl, rfl, by go_num, ?_, du.set _ _ hsW, ?_, ?_, ?_, hblk.set _ _ hp, grown_set hg _ _⟩
        · show _ = _
          rw [List.length_set]; exact hu.out
        · show _ = _
          rw [List.take_set_of_le (by omega)]; exact ht.out
        · show _ = _
          rw [← Nat.add_assoc, drop_set_succ]
          exact drop_succ_of_drop hd.out
        · show _ = _
          have hzl : o + i < zs.length := by rw [← hu.out]; exact hp
          have exz := getElem_of_drop hd.out hp hzl
          rw [seg_set _ _ _ _ hp, seg_succ _ _ _ hzl, val_snoc, val_snoc, seg_length _ _ _ (by omega), seg_length _ _ _ (by omega), val_take_succ _ _ _ hp2, ev, ← exz, ex, Nat.pow_succ]
          exact ST.out
      case measure => simp [intOf]; omega
    · obtain rfl : i = n := by omega
      obtain ⟨x, hcx, hfx, hx⟩ := hblk.get (o + i) (by rw [hu.out]; have := HO.out; omega)
      have hxW : x < 18446744073709551616 := by obtain ⟨h, e⟩ := hx.out; rw [← e]; exact du.at _ h
      obtain ⟨s, g5⟩ : ∃ s, s = (x + 18446744073709551616 - ca - bo) % 18446744073709551616 := ⟨_, rfl⟩
      obtain ⟨bo', g6⟩ : ∃ bo', bo' = if x < ca + bo then 1 else 0 := ⟨_, rfl⟩
      have st := takes_last 18446744073709551616 _ _ _ _ _ x s ca bo bo' hv.out hxW hca hbo g5 g6
      have hsW : s < 18446744073709551616 := by rw [g5]; exact Nat.mod_lt _ (by omega)
      have hbo' : bo' ≤ 1 := by rw [g6]; split <;> omega
      have a2 := sub64_run x ca bo hxW hca hbo s bo' g5 g6
      have ST := mkHid st
      clear g5 g6 st
      go_wp2
      go_ret
      obtain ⟨hp, ex⟩ := hx.out
      have hzl : o + i < zs.length := by rw [← hu.out]; exact hp
      have exz := getElem_of_drop hd.out hp hzl
      refine ⟨bo', us.set (o + i) s, rfl, hbo', by rw [List.length_set]; exact hu.out, du.set _ _ hsW, by rw [List.take_set_of_le (by omega)]; exact ht.out, by rw [drop_set_succ]; exact drop_succ_of_drop hd.out, ?_, hblk.set _ _ hp, grown_set hg _ _⟩
      rw [seg_set _ _ _ _ hp, seg_succ _ _ _ hzl, val_snoc, val_snoc, seg_length _ _ _ (by omega), seg_length _ _ _ (by omega), ← exz, ex, Nat.pow_succ]
      have e6 := ST.out
      rw [List.take_of_length_le (l := Y) (by rw [HYL.out]; omega)] at e6
      exact e6

/-- gives: Y added to a part of a row, what is carried beyond it lost -/
theorem gives_any {b o n c c2 : Nat} {tl : List Value} {a2 : Option Addr} {zs Y : List Nat} {w : World} (hblk0 : Pre w b .u64 54 zs tl) (dz0 : Dg 18446744073709551616 zs) (ho : o + n + 1 ≤ zs.length)
    (hY : Sl .u64 w a2 n c2 Y) (dY : Dg 18446744073709551616 Y) (hne : ∀ p, a2 = some p → p.block ≠ b) (hn1 : n ≤ 1099511627776) :
    Calls Try.prog 66 #[.slice (some ⟨b, o, none⟩) (n + 1) c, .slice a2 n c2] w fun e w' => ∃ (k : Nat) (us : List Nat), e = .returned (.tuple #[]) ∧
      us.length = zs.length ∧ Dg 18446744073709551616 us ∧ us.take o = zs.take o ∧ us.drop (o + n + 1) = zs.drop (o + n + 1) ∧
      val 18446744073709551616 (seg us o (n + 1)) + 18446744073709551616 ^ (n + 1) * k = val 18446744073709551616 (seg zs o (n + 1)) + val 18446744073709551616 Y ∧ Pre w' b .u64 54 us tl ∧ w.grownBy w' (some b) := by
  have HO := mkHid ho
  clear ho
  have HYL := mkHid hY.len
  go_enter Try.func66, Try.ntmps66
  go_wp2
  go_loopw [4, 9] (fun cv iv wr => ∃ (i ca : Nat) (us : List Nat), i ≤ n ∧ ca ≤ 1 ∧ cv = .int .u64 ca ∧ iv = .int .i64 i ∧ Hid (us.length = zs.length) ∧ Dg 18446744073709551616 us ∧
    Hid (us.take o = zs.take o) ∧ Hid (us.drop (o + i) = zs.drop (o + i)) ∧ Hid (val 18446744073709551616 (seg us o i) + 18446744073709551616 ^ i * ca = val 18446744073709551616 (seg zs o i) + val 18446744073709551616 (Y.take i)) ∧
    Pre wr b .u64 54 us tl ∧ w.grownBy wr (some b)) (fun _ iv _ => n - (intOf iv).toNat)
  case atStart =>
    exact ⟨0, 0, zs, Nat.zero_le _, by omega, rfl, rfl, rfl, dz0, rfl, rfl, by show _ = _; simp [seg, val], hblk0, grown_refl _ _⟩
  case round =>
    obtain ⟨i, ca, us, hi, hca, rfl, rfl, hu, du, ht, hd, hv, hblk, hg⟩ := hrel
    by_cases hlt : i < n
    · obtain ⟨b2, o2, v, rfl, hcv, hv'⟩ := (hY.grown hg hne).get i hlt
      have hvW : v < 18446744073709551616 := by obtain ⟨h, e⟩ := hv'.out; rw [← e]; exact dY.at _ h
      obtain ⟨x, hcx, hfx, hx⟩ := hblk.get (o + i) (by rw [hu.out]; have := HO.out; omega)
      have hxW : x < 18446744073709551616 := by obtain ⟨h, e⟩ := hx.out; rw [← e]; exact du.at _ h
      obtain ⟨s, g5⟩ : ∃ s, s = (x + v + ca) % 18446744073709551616 := ⟨_, rfl⟩
      obtain ⟨ca', g6⟩ : ∃ ca', ca' = (x + v + ca) / 18446744073709551616 := ⟨_, rfl⟩
      have st := add_step 18446744073709551616 _ s ca' x v ca _ _ _ hv.out g5 g6
      have hsW : s < 18446744073709551616 := by rw [g5]; exact Nat.mod_lt _ (by omega)
      have hca' : ca' ≤ 1 := by omega
      have a1 := add64_run x v ca hxW hvW hca s ca' g5 g6
      have ST := mkHid st
      clear g5 g6 st
      go_wp2
      go_roundw
      case rel =>
        obtain ⟨hp, ex⟩ := hx.out
        obtain ⟨hp2, ev⟩ := hv'.out
        refine ⟨i + 1, ca', us.set (o + i) s, by omega, hca', rfl, by go_num, ?_, du.set _ _ hsW, ?_, ?_, ?_, hblk.set _ _ hp, grown_set hg _ _⟩
        · show _ = _
          rw [List.length_set]; exact hu.out
        · show _ = _
          rw [List.take_set_of_le (by omega)]; exact ht.out
        · show _ = _
          rw [← Nat.add_assoc, drop_set_succ]
          exact drop_succ_of_drop hd.out
        · show _ = _
          have hzl : o + i < zs.length := by rw [← hu.out]; exact hp
          have exz := getElem_of_drop hd.out hp hzl
          rw [seg_set _ _ _ _ hp, seg_succ _ _ _ hzl, val_snoc, val_snoc, seg_length _ _ _ (by omega), seg_length _ _ _ (by omega), val_take_succ _ _ _ hp2, ev, ← exz, ex, Nat.pow_succ]
          exact ST.out
      case measure => simp [intOf]; omega
    · obtain rfl : i = n := by omega
      obtain ⟨x, hcx, hfx, hx⟩ := hblk.get (o + i) (by rw [hu.out]; have := HO.out; omega)
      have hxW : x < 18446744073709551616 := by obtain ⟨h, e⟩ := hx.out; rw [← e]; exact du.at _ h
      obtain ⟨s, g5⟩ : ∃ s, s = (x + ca) % 18446744073709551616 := ⟨_, rfl⟩
      obtain ⟨k, g6⟩ : ∃ k, k = (x + ca) / 18446744073709551616 := ⟨_, rfl⟩
      have st := gives_last 18446744073709551616 _ _ _ _ x s ca k hv.out g5 g6
      have hsW : s < 18446744073709551616 := by rw [g5]; exact Nat.mod_lt _ (by omega)
      have w1 : IntKind.u64.wrap ((x : Int) + (ca : Int)) = (s : Int) := by rw [IntKind.wrap_u64]; omega
      have ST := mkHid st
      clear g5 g6 st
      go_wp2
      go_end0
      obtain ⟨hp, ex⟩ := hx.out
      have hzl : o + i < zs.length := by rw [← hu.out]; exact hp
      have exz := getElem_of_drop hd.out hp hzl
      refine ⟨k, us.set (o + i) s, rfl, by rw [List.length_set]; exact hu.out, du.set _ _ hsW, by rw [List.take_set_of_le (by omega)]; exact ht.out, by rw [drop_set_succ]; exact drop_succ_of_drop hd.out, ?_, hblk.set _ _ hp, grown_set hg _ _⟩
      rw [seg_set _ _ _ _ hp, seg_succ _ _ _ hzl, val_snoc, val_snoc, seg_length _ _ _ (by omega), seg_length _ _ _ (by omega), ← exz, ex, Nat.pow_succ]
      have e6 := ST.out
      rw [List.take_of_length_le (l := Y) (by rw [HYL.out]; omega)] at e6
      exact e6

end Go.Proofs.Ytaeamlldocbeeaa
