/- baileyref3: Join, pad, words, k256. -/
import Derived.Test.YtaeamlldocbeeaaDoorHashM
import Derived.Deep.RegionLaw
import Derived.Deep.RegionHeld3
namespace Go.Proofs.YtaeamlldocbeeaaDoor
open Go.RowKit Go.Shelf Num

set_option maxRecDepth 100000 in
set_option maxHeartbeats 1000000 in
theorem join_any {np cp : Nat} {ap : Option Addr} {pss : List (List Nat)} {w : World} (hp : Pts w ap np pss) (hI : pss.flatten.length < 274877906944) :
    Calls Tryd.prog 37 #[.slice ap np cp] w fun e w' => ∃ a n c, e = .returned (.slice a n c) ∧ Own .u8 5 w.heap.size w' a n c pss.flatten ∧ Below w.heap.size w w' := by
  have HL := mkHid hp.len
  have hnp := hp.big
  go_enter Tryd.func37, Tryd.ntmps37
  go_wp2
  go_loopw [3, 4] (fun qv iv wr => ∃ (i : Nat) (a : Option Addr) (n c : Nat), i ≤ np ∧ iv = .int .i64 i ∧ qv = .slice a n c ∧ Own .u8 5 w.heap.size wr a n c (pss.take i).flatten ∧ Below w.heap.size w wr) (fun _ iv _ => np - (intOf iv).toNat)
  case atStart => exact ⟨0, none, 0, 0, by omega, rfl, rfl, by simpa using Own.nilOwn _ _ _ _, Below.refl _ _⟩
  case round =>
    obtain ⟨i, a, n, c, hi, rfl, rfl, ho, hb⟩ := hrel
    by_cases hlt : i < np
    · obtain ⟨pb, po', pa, pn, pc, hap, hcell, hsl⟩ := (hp.keep hb).rd i hlt
      subst hap
      have hil : i < pss.length := by rw [HL.out]; exact hlt
      have hfl := flat_le pss (i + 1)
      have hsn := flat_snoc pss i hil
      have hlen : n + pn < 274877906944 := by
        rw [← hsn, List.length_append, hsl.len, ho.len] at hfl
        omega
      have HSN := mkHid hsn
      have i1 : (i : Int) < (np : Int) := by omega
      have hz := hb.size
      clear hsn hfl hil
      go_wp2_with (at_builtin; refine wpList_app rfl (.tmp 11) (.tmp 15) 22 rfl 5 .u8 1 under_bytes info_u8 w.heap.size a n c _ rfl ho _ _ _ _ rfl hsl (by omega) (by omega) hz ?_; intro a3 c3 w3 ho3 hb3)
      go_roundw
      case rel => exact ⟨i + 1, a3, n + pn, c3, by omega, by go_num, rfl, by rw [← HSN.out]; exact ho3, hb.trans hb3⟩
      case measure => simp [intOf]; omega
    · obtain rfl : i = np := by omega
      have e1 : pss.take i = pss := List.take_of_length_le (by rw [HL.out]; exact Nat.le_refl _)
      rw [e1] at ho
      clear e1
      go_wp2
      go_ret
      exact ⟨_, _, _, rfl, ho, hb⟩

theorem padZ_at {n m : Nat} (h1 : n + 1 ≤ m) (h2 : m ≤ n + 1 + padZ (n % 64)) : m % 64 = 56 ↔ m = n + 1 + padZ (n % 64) := by
  unfold padZ at *
  split at h2 <;> split <;> omega

theorem padZ_le (r : Nat) : padZ r ≤ 64 := by
  unfold padZ
  split <;> omega

/-- the length's bytes from place j on -/
def lenB (N j : Nat) : List Nat := List.replicate j 0 ++ (b64 N).drop j

theorem lenB_set (N j : Nat) (h : j < 8) : (lenB N (j + 1)).set j (N / 256 ^ (7 - j) % 256) = lenB N j := by
  match j, h with
  | 0, _ | 1, _ | 2, _ | 3, _ | 4, _ | 5, _ | 6, _ | 7, _ => simp [lenB, b64, List.replicate]

theorem lenB_len (N j : Nat) (h : j ≤ 8) : (lenB N j).length = 8 := by
  unfold lenB
  rw [List.length_append, List.length_replicate, List.length_drop]
  have : (b64 N).length = 8 := rfl
  omega

set_option maxRecDepth 100000 in
set_option maxHeartbeats 2000000 in
theorem pad_any {n c : Nat} {a : Option Addr} {b : List Nat} {w : World} (h : Sl .u8 w a n c b) (hn : n < 549755813888) :
    Calls Tryd.prog 81 #[.slice a n c, .int .i64 64, .int .i64 8] w fun e w' => ∃ a' m c', e = .returned (.slice a' m c') ∧ Own .u8 5 w.heap.size w' a' m c' (b ++ padS (n % 64) n) ∧ Below w.heap.size w w' := by
  have hZ := padZ_le (n % 64)
  go_enter Tryd.func81, Tryd.ntmps81
  go_upto_region 2 with (at_builtin; refine wpList_app rfl (.const (.slice none 0 0)) (.tmp 11) 22 rfl 5 .u8 1 under_bytes info_u8 w.heap.size none 0 0 [] rfl (Own.nilOwn _ _ _ _) _ _ _ _ rfl h (by omega) (by omega) (Nat.le_refl _) ?_; intro a1 c1 w1 ho1 hb1)
  rw [Nat.zero_add, List.nil_append] at ho1
  have e0 : (0 : Nat) + n = n := Nat.zero_add n
  try simp only [e0]
  clear e0
  obtain ⟨W2, bb, hW2, hbb, hblk, hb2, hz2⟩ := newNums w1 .u8 5 [128]
  have hb12 := hb1.trans (hb2.mono hb1.size)
  have ho2 := ho1.keep hb2
  have hs2 := hblk.sl 1 rfl (by omega)
  have hB2 := hb12.size
  rw [hW2] at ho2 hs2 hb12 hB2
  rw [hbb] at hs2
  clear hW2 hbb hblk hb2 hz2 ho1 W2 bb
  go_upto_region 3 with (at_builtin; refine wpList_app rfl (.tmp 13) (.tmp 14) 22 rfl 5 .u8 1 under_bytes info_u8 w.heap.size a1 n c1 _ rfl ho2 _ _ _ _ rfl hs2 (by omega) (by omega) hB2 ?_; intro a3 c3 w3 ho3 hb3)
  have hb13 := hb12.trans hb3
  clear ho2 hs2 hB2 hb12 hb3 hb1
  go_loopw [7] (fun qv wr => ∃ (m : Nat) (a : Option Addr) (c : Nat), n + 1 ≤ m ∧ m ≤ n + 1 + padZ (n % 64) ∧ qv = .slice a m c ∧ Own .u8 5 w.heap.size wr a m c ((b ++ [128]) ++ List.replicate (m - (n + 1)) 0) ∧ Below w.heap.size w wr) (fun q _ => match q with | .slice _ m _ => n + 1 + padZ (n % 64) - m | _ => 0)
  case atStart => exact ⟨n + 1, a3, c3, by omega, by omega, rfl, by simpa using ho3, hb13⟩
  case round =>
    clear ho3 hb13
    obtain ⟨m, a4, c4, hm1, hm2, rfl, ho4, hb4⟩ := hrel
    have hat := padZ_at hm1 hm2
    by_cases hlt : m % 64 = 56
    · have hme := hat.1 hlt
      have t1 : ((m : Int) % 64 != 56) = false := by
        have : (m : Int) % 64 = 56 := by omega
        rw [this]; rfl
      have e1 : m - (n + 1) = padZ (n % 64) := by omega
      have e2 : (b ++ [128] ++ List.replicate (padZ (n % 64)) 0) ++ b64 (8 * n) = b ++ padS (n % 64) n := by
        unfold padS
        simp
      rw [e1] at ho4
      have HE2 := mkHid e2
      obtain ⟨N8, hN8⟩ : ∃ x, x = 8 * n := ⟨_, rfl⟩
      have e8 : (n : Int) * 8 = (N8 : Int) := by omega
      have hN8l : N8 < 18446744073709551616 := by omega
      have HN8 := mkHid hN8
      have hz4 := hb4.size
      clear hat hlt hme e1 e2 hN8 hm1
      go_upto_region 7 with (at_make; refine wpList_mk rfl _ _ _ rfl 5 .u8 1 under_bytes info_u8 8 rfl rfl (by omega) (by omega) (by omega) (by omega) ?_; intro lb W4 hlB hlb hbe4)
      have hbw := hb4.trans (hbe4.mono hz4)
      have hlw : w.heap.size ≤ lb := by omega
      have hlb' : Blk W4 lb .u8 5 (lenB N8 8) := hlb
      have hlw' : lb < W4.heap.size := hlb.lt
      clear hlb
      obtain ⟨wm, hwm⟩ : ∃ x, x = wr := ⟨_, rfl⟩
      rw [← hwm] at hlB hbe4 ho4
      clear hwm
      go_wp2
      go_loopw [8, 10] (fun xv iv wr => ∃ (z : Int) (j x : Nat), iv = .int .i64 z ∧ xv = .int .u64 (x : Int) ∧ Hid (z + 1 = (j : Int)) ∧ j ≤ 8 ∧ Hid (x = N8 / 256 ^ (8 - j)) ∧ Blk wr lb .u8 5 (lenB N8 j) ∧ Below wm.heap.size wm wr ∧ Below w.heap.size w wr) (fun _ iv _ => (intOf iv + 1).toNat)
      case atStart => exact ⟨7, 8, N8, rfl, rfl, rfl, by omega, by show _ = _; simp, hlb', hbe4, hbw⟩
      case round =>
        clear hlb' hbe4 hbw
        obtain ⟨z, j, x, rfl, rfl, HZ', hj, HX, hlb, hbe, hbw⟩ := hrel
        rcases j with _ | j
        · obtain rfl : z = -1 := by have := HZ'.out; omega
          have e9 : lenB N8 0 = b64 N8 := rfl
          rw [e9] at hlb
          clear e9
          have ho5 := ho4.keep hbe
          have hls := hlb.sl 8 rfl (by omega)
          have hz9 := hbw.size
          have hme : (m : Nat) ≤ 1099511627776 := by omega
          go_wp2_with (at_builtin; refine wpList_app rfl (.tmp 47) (.tmp 48) 22 rfl 5 .u8 1 under_bytes info_u8 w.heap.size a4 m c4 _ rfl ho5 _ _ _ _ rfl hls (by omega) (by omega) hz9 ?_; intro a9 c9 w9 ho9 hb9)
          go_ret
          rw [HN8.out, HE2.out] at ho9
          exact ⟨_, _, _, rfl, ho9, hbw.trans hb9⟩
        · obtain rfl : z = (j : Int) := by have := HZ'.out; omega
          have hxx := HX.out
          obtain ⟨y, hy⟩ : ∃ y, y = x % 256 := ⟨_, rfl⟩
          obtain ⟨q, hq⟩ : ∃ q, q = x / 256 := ⟨_, rfl⟩
          have ey : (x : Int) % 256 = (y : Int) := by rw [hy]; rfl
          have eq : (x : Int) / 256 = (q : Int) := by rw [hq]; rfl
          have hy256 : y < 256 := by omega
          have hyy : y = N8 / 256 ^ (7 - j) % 256 := by rw [hy, hxx, show 8 - (j + 1) = 7 - j by omega]
          have hqq : q = N8 / 256 ^ (8 - j) := by
            rw [hq, hxx, Nat.div_div_eq_div_mul, ← Nat.pow_succ]
            congr 2
            omega
          have hset := lenB_set N8 j (by omega)
          rw [← hyy] at hset
          have hql : q < 18446744073709551616 := by
            rw [hqq]
            exact Nat.lt_of_le_of_lt (Nat.div_le_self _ _) hN8l
          have hqw : IntKind.u64.wrap (q : Int) = (q : Int) := by rw [u64_nat, Nat.mod_eq_of_lt hql]
          have HS := mkHid hset
          have HQ := mkHid hqq
          have hc := hlb.at j (by rw [lenB_len _ _ hj]; omega)
          have hf := hlb.frozen j
          generalize hold : (lenB N8 (j + 1)).getD j 0 = old at hc
          have i8 : (j : Int) < 8 := by omega
          clear hxx hy hq hyy hqq hset hold
          go_wp2
          go_roundw
          case rel =>
            refine ⟨(j : Int) - 1, j, q, rfl, rfl, by show _ = _; omega, by omega, HQ.out, ?_, hbe.setCell (p := ⟨lb, j, none⟩) (by show _ ≤ lb; omega) _, hbw.setCell (p := ⟨lb, j, none⟩) hlw _⟩
            have := hlb.set j y
            rw [HS.out] at this
            exact this
          case measure => simp [intOf]
    · have t1 : ((m : Int) % 64 != 56) = true := by
        have : ¬ (m : Int) % 64 = 56 := by omega
        simpa using this
      have hne : ¬ m = n + 1 + padZ (n % 64) := fun e => hlt (hat.2 e)
      obtain ⟨W2, bb, hW2, hbb, hblk, hb2, hz2⟩ := newNums wr .u8 5 [0]
      have hb12 := hb4.trans (hb2.mono hb4.size)
      have ho2 := ho4.keep hb2
      have hs2 := hblk.sl 1 rfl (by omega)
      have hB2 := hb12.size
      rw [hW2] at ho2 hs2 hb12 hB2
      rw [hbb] at hs2
      clear hW2 hbb hblk hb2 hz2 W2 bb hat hlt
      go_wp2_with (at_builtin; refine wpList_app rfl (.tmp 24) (.tmp 25) 22 rfl 5 .u8 1 under_bytes info_u8 w.heap.size a4 m c4 _ rfl ho2 _ _ _ _ rfl hs2 (by omega) (by omega) hB2 ?_; intro a5 c5 w5 ho5 hb5)
      go_roundw
      case rel =>
        refine ⟨m + 1, a5, c5, by omega, by omega, rfl, ?_, hb12.trans hb5⟩
        rw [show m + 1 - (n + 1) = (m - (n + 1)) + 1 by omega, List.replicate_succ', ← List.append_assoc]
        exact ho5
      case measure => simp; omega

theorem k256_arr : (U .u32 K256).toArray = #[.int .u32 1116352408, .int .u32 1899447441, .int .u32 3049323471, .int .u32 3921009573, .int .u32 961987163, .int .u32 1508970993, .int .u32 2453635748, .int .u32 2870763221, .int .u32 3624381080, .int .u32 310598401, .int .u32 607225278, .int .u32 1426881987, .int .u32 1925078388, .int .u32 2162078206, .int .u32 2614888103, .int .u32 3248222580, .int .u32 3835390401, .int .u32 4022224774, .int .u32 264347078, .int .u32 604807628, .int .u32 770255983, .int .u32 1249150122, .int .u32 1555081692, .int .u32 1996064986, .int .u32 2554220882, .int .u32 2821834349, .int .u32 2952996808, .int .u32 3210313671, .int .u32 3336571891, .int .u32 3584528711, .int .u32 113926993, .int .u32 338241895, .int .u32 666307205, .int .u32 773529912, .int .u32 1294757372, .int .u32 1396182291, .int .u32 1695183700, .int .u32 1986661051, .int .u32 2177026350, .int .u32 2456956037, .int .u32 2730485921, .int .u32 2820302411, .int .u32 3259730800, .int .u32 3345764771, .int .u32 3516065817, .int .u32 3600352804, .int .u32 4094571909, .int .u32 275423344, .int .u32 430227734, .int .u32 506948616, .int .u32 659060556, .int .u32 883997877, .int .u32 958139571, .int .u32 1322822218, .int .u32 1537002063, .int .u32 1747873779, .int .u32 1955562222, .int .u32 2024104815, .int .u32 2227730452, .int .u32 2361852424, .int .u32 2428436474, .int .u32 2756734187, .int .u32 3204031479, .int .u32 3329325298] := by kernel_rfl

set_option maxRecDepth 100000 in
theorem k256_any (w : World) : Calls Tryd.prog 85 #[] w fun e w' => ∃ kb, e = .returned (.slice (some ⟨kb, 0, none⟩) 64 64) ∧ Blk w' kb .u32 82 K256 ∧ w.heap.size ≤ kb ∧ Below w.heap.size w w' := by
  go_enter Tryd.func85, Tryd.ntmps85
  go_wp2
  go_ret
  refine ⟨_, rfl, ?_, Nat.le_refl _, below_alloc _ (Nat.le_refl _)⟩
  unfold Blk
  rw [k256_arr]
  exact heap_alloc_new _ _

theorem wordsS_take (H : List Nat) (i : Nat) (hi : i < H.length) : wordsS (H.take (i + 1)) = wordsS (H.take i) ++ b32 (H.getD i 0) := by
  rw [← take_snoc H i hi, wordsS_snoc]

/-- append to a slice of one's own, as a run -/
theorem run_appG {P : Program} {w : World} (t ty e : TypeId) (k : IntKind) (bytes : Nat) (h1 : P.underlying t = some (.slice e)) (h2 : (P.info? e).map (fun i => (i.zero, i.size, i.bytes)) = some (some (.int k 0), 1, bytes))
    {B : Nat} (hB : B ≤ w.heap.size) {a1 : Option Addr} {n1 c1 : Nat} {xs : List Nat} (hown : Own k e B w a1 n1 c1 xs) {b o n2 c2 : Nat} {ys : List Nat} (hsl : Sl k w (some ⟨b, o, none⟩) n2 c2 ys)
    (hbytes : (n1 + n2) * bytes ≤ 140737488355328) (h63 : n1 + n2 ≤ 9223372036854775807) :
    ∃ a3 c3 w', (Builtin.append_ #[t, t] ty #[.slice a1 n1 c1, .slice (some ⟨b, o, none⟩) n2 c2]).run P w = .ok (.slice a3 (n1 + n2) c3) w' ∧ Own k e B w' a3 (n1 + n2) c3 (xs ++ ys) ∧ w.grownBy w' (Value.slice a1 n1 c1).ownBlock := by
  obtain ⟨i, hi, hz, hsz, hb⟩ := info_parts h2
  obtain ⟨v', w', hrun, hr, hg, _⟩ := run_append_own (P := P) w B t ty e i (.int k 0) 1 bytes h1 hi hz hsz hb rfl (by omega) (.slice a1 n1 c1) n1 (U k xs) hown.owns ⟨b, o, none⟩ n2 c2 (U k ys)
    (by rw [U_length, hsl.len, Nat.mul_one]) (fun j u hu => by
      rw [Addr.add_lit]
      rw [U_get] at hu
      obtain ⟨y, hy, rfl⟩ := Option.map_eq_some_iff.1 hu
      obtain ⟨hj, rfl⟩ := List.getElem?_eq_some_iff.1 hy
      exact hsl.cell j hj) (U_oneCell k ys) (by unfold maxLen; omega) hbytes hB
  rw [← U_append] at hr
  obtain ⟨a3, c3, rfl, ho⟩ := Own.ofOwns hr
  exact ⟨a3, c3, w', hrun, ho, hg⟩

/-- append to a slice of one's own, as one step of a region that draws its order -/
theorem step_app {P : Program} {w : World} {ops : Array Oper} {o : Oper} {a : Act} {K : Act → World → Prop} {Q : Exit → Act → World → Prop} {E : Prop}
    (hg : o.guard = none) (s x : Operand) (t : TypeId) (hop : o.op = Op.call { callee := Callee.builtin Builtin.append, args := #[s, x], argTypes := #[t, t] })
    (e : TypeId) (k : IntKind) (bytes : Nat) (h1 : P.underlying t = some (.slice e)) (h2 : (P.info? e).map (fun i => (i.zero, i.size, i.bytes)) = some (some (.int k 0), 1, bytes))
    (B : Nat) (hB : B ≤ w.heap.size) (a1 : Option Addr) (n1 c1 : Nat) (xs : List Nat) (hs : a.eval s = .slice a1 n1 c1) (hown : Own k e B w a1 n1 c1 xs) (b q n2 c2 : Nat) (ys : List Nat) (hx : a.eval x = .slice (some ⟨b, q, none⟩) n2 c2) (hsl : Sl k w (some ⟨b, q, none⟩) n2 c2 ys)
    (hbytes : (n1 + n2) * bytes ≤ 140737488355328) (h63 : n1 + n2 ≤ 9223372036854775807)
    (hK : ∀ a3 c3 w', Own k e B w' a3 (n1 + n2) c3 (xs ++ ys) → w.grownBy w' (Value.slice a1 n1 c1).ownBlock → K (a.put o.dst (.slice a3 (n1 + n2) c3)) w') :
    if Region.wanted o (yielded ops a.tmps) = true then Oper.wp P o a w K Q else E := by
  have hw : Region.wanted o (yielded ops a.tmps) = true := by simp [Region.wanted, hg]
  rw [if_pos hw]
  obtain ⟨a3, c3, w', hrun, ho, hgr⟩ := run_appG (P := P) t o.type e k bytes h1 h2 hB hown hsl hbytes h63
  unfold Oper.wp
  simp [execOp, hop, resolve, invoke, builtin, hs, hx, hrun, Result.andThen]
  exact hK a3 c3 w' ho hgr

theorem ownBlock_fresh {k : IntKind} {T : TypeId} {B : Nat} {w : World} {a : Option Addr} {n c : Nat} {xs : List Nat} (h : Own k T B w a n c xs) : ∀ b, (Value.slice a n c).ownBlock = some b → B ≤ b := by
  intro b e
  cases a with
  | none => cases e
  | some p => cases e; exact h.fresh p rfl

theorem below_own {k : IntKind} {T : TypeId} {B : Nat} {w0 w w' : World} {a : Option Addr} {n c : Nat} {xs : List Nat} (hb : Below B w0 w) (h : Own k T B w a n c xs) (hg : w.grownBy w' (Value.slice a n c).ownBlock) (hB : B ≤ w.heap.size) : Below B w0 w' :=
  hb.trans ((Below.refl B w).grown hg hB (ownBlock_fresh h))

set_option maxRecDepth 100000 in
set_option maxHeartbeats 2000000 in
theorem words_any {n c : Nat} {a : Option Addr} {H : List Nat} {w : World} (h : Sl .u32 w a n c H) (hn : n ≤ 1000) (hd : Dg 4294967296 H) :
    Calls Tryd.prog 84 #[.slice a n c] w fun e w' => ∃ a' c', e = .returned (.slice a' (4 * n) c') ∧ Own .u8 5 w.heap.size w' a' (4 * n) c' (wordsS H) ∧ Below w.heap.size w w' := by
  have HL := mkHid h.len
  go_enter Tryd.func84, Tryd.ntmps84
  go_wp2
  go_loopw [3, 4] (fun qv iv wr => ∃ (i : Nat) (a : Option Addr) (c : Nat), i ≤ n ∧ iv = .int .i64 i ∧ qv = .slice a (4 * i) c ∧ Own .u8 5 w.heap.size wr a (4 * i) c (wordsS (H.take i)) ∧ Below w.heap.size w wr) (fun _ iv _ => n - (intOf iv).toNat)
  case atStart => exact ⟨0, none, 0, by omega, rfl, rfl, Own.nilOwn _ _ _ _, Below.refl _ _⟩
  case round =>
    obtain ⟨i, aq, cq, hi, rfl, rfl, ho, hb⟩ := hrel
    by_cases hlt : i < n
    · obtain ⟨bh, oh, x, rfl, hc, hx⟩ := (h.keep hb).get i hlt
      have hil : i < H.length := by rw [HL.out]; exact hlt
      have hxe : H.getD i 0 = x := by
        obtain ⟨h1, e1⟩ := hx.out
        simp [List.getD, h1, e1]
      have hxl : x < 4294967296 := by
        obtain ⟨h1, e1⟩ := hx.out
        rw [← e1]
        exact hd.at _ h1
      have hw := wordsS_take H i hil
      rw [hxe] at hw
      have HW := mkHid hw
      have i1 : (i : Int) < (n : Int) := by omega
      clear hw hxe hil hx
      have e0 : ∀ z : Nat, IntKind.u8.wrap (z : Int) = ((z % 256 : Nat) : Int) := fun z => by rw [wrap_u8]; omega
      have ey0 : IntKind.u8.wrap ((x : Int) / 16777216) = ((x / 16777216 % 256 : Nat) : Int) := e0 (x / 16777216)
      have ey1 : IntKind.u8.wrap ((x : Int) / 65536) = ((x / 65536 % 256 : Nat) : Int) := e0 (x / 65536)
      have ey2 : IntKind.u8.wrap ((x : Int) / 256) = ((x / 256 % 256 : Nat) : Int) := e0 (x / 256)
      have ey3 : IntKind.u8.wrap (x : Int) = ((x % 256 : Nat) : Int) := e0 x
      have hblk : Blk (wr.alloc (Obj.cells (U .u8 (b32 x)).toArray 5)) wr.heap.size .u8 5 (b32 x) := heap_alloc_new _ _
      have hba := hb.alloc hb.size (Obj.cells (U .u8 (b32 x)).toArray 5)
      have hoa := ho.keep (below_alloc (Obj.cells (U .u8 (b32 x)).toArray 5) (Nat.le_refl wr.heap.size))
      have hb32 : b32 x = [x / 16777216 % 256, x / 65536 % 256, x / 256 % 256, x % 256] := rfl
      have HB := mkHid hb32
      generalize hy0 : x / 16777216 % 256 = y0 at *
      generalize hy1 : x / 65536 % 256 = y1 at *
      generalize hy2 : x / 256 % 256 = y2 at *
      generalize hy3 : x % 256 = y3 at *
      rw [hb32] at hblk hba hoa
      have hbd := hba.drew
      have hod := hoa.keep (Below.refl _ _).drew
      have hsd := hblk.drew.sl 4 rfl (by omega)
      have hzd := hbd.size
      have hfr := ownBlock_fresh ho
      have hbhl : bh < w.heap.size := h.lt (by omega) _ rfl
      have hbwl := hb.size
      clear e0 hblk hba hoa hb32 hy0 hy1 hy2 hy3 hb ho
      go_wp2
      go_region_held3 (fun w' => w'.cell? ⟨bh, oh + i, none⟩ = some (.int .u32 (x : Int)))
        (first
          | go_keep
          | (rw [World.cell?_of_block (hg3.block bh (by simp; omega) (fun e => by have := hfr _ e.symm; omega))]; assumption))
        ((refine step_app (by rfl) (.tmp 11) (.tmp 35) 22 (by rfl) 5 .u8 1 under_bytes info_u8 w.heap.size hzd aq (4 * i) cq _ (by rfl) hod _ _ _ _ _ (by rfl) hsd (by omega) (by omega) ?_; intro a3 c3 w3 ho3 hg3))
      have hb3 := below_own hbd hod hg3 hzd
      clear hbd hod hsd hzd hg3
      go_wp2
      go_roundw
      case rel =>
        refine ⟨i + 1, a3, c3, by omega, by go_num, rfl, ?_, hb3⟩
        rw [HW.out, HB.out]
        exact ho3
      case measure => simp [intOf]; omega
    · obtain rfl : i = n := by omega
      have e1 : H.take i = H := List.take_of_length_le (by rw [HL.out]; exact Nat.le_refl _)
      rw [e1] at ho
      clear e1
      go_wp2
      go_ret
      exact ⟨_, _, rfl, ho, hb⟩

end Go.Proofs.YtaeamlldocbeeaaDoor
