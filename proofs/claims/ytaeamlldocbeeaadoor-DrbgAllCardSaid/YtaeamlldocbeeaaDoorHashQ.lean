/- baileyref3: Of, HMAC; baileyref4: hmac. -/
import Derived.Test.YtaeamlldocbeeaaDoorHashO
namespace Go.Proofs.YtaeamlldocbeeaaDoor
open Go.RowKit Go.Shelf Num

theorem H256_arr : (U .u32 H256).toArray = #[.int .u32 1779033703, .int .u32 3144134277, .int .u32 1013904242, .int .u32 2773480762, .int .u32 1359893119, .int .u32 2600822924, .int .u32 528734635, .int .u32 1541459225] := rfl

set_option maxRecDepth 100000 in
set_option maxHeartbeats 1000000 in
theorem rof_any {n c : Nat} {a : Option Addr} {b : List Nat} {w : World} (h : Sl .u8 w a n c b) (hd : Dg 256 b) (hn : n < 274877906944) :
    Calls Tryd.prog 57 #[.int .i64 3, .slice a n c] w (Gives32 w (sha b)) := by
  have hblk : Blk (w.alloc (Obj.cells #[.int .u32 1779033703, .int .u32 3144134277, .int .u32 1013904242, .int .u32 2773480762, .int .u32 1359893119, .int .u32 2600822924, .int .u32 528734635, .int .u32 1541459225] 82)) w.heap.size .u32 82 H256 := by
    unfold Blk
    rw [H256_arr]
    exact heap_alloc_new _ _
  have hb1 := below_alloc (Obj.cells #[.int .u32 1779033703, .int .u32 3144134277, .int .u32 1013904242, .int .u32 2773480762, .int .u32 1359893119, .int .u32 2600822924, .int .u32 528734635, .int .u32 1541459225] 82) (Nat.le_refl w.heap.size)
  have hS := mkHid (rsha_any (h.keep hb1) hd hn hblk rfl H256_dg)
  have he : wordsS (taken H256 (b ++ padS (n % 64) n) ((b ++ padS (n % 64) n).length / 64)) = sha b := by
    rw [← h.len]
    rfl
  have HE := mkHid he
  clear he hblk
  go_enter Tryd.func57, Tryd.ntmps57
  go_wp2_with (go_at_call 72; (with_reducible refine hS.out.mono ?_); rintro e w1 ⟨a', c', rfl, ho, hg⟩)
  go_ret
  rw [HE.out] at ho
  have hz := hb1.size
  exact ⟨a', c', rfl, ho.mono hz, hb1.trans (grown_below hg (Nat.le_refl _) hz)⟩

theorem rblock_any (w : World) : Calls Tryd.prog 56 #[.int .i64 3] w (RetN .i64 w 64) := by
  go_enter Tryd.func56, Tryd.ntmps56
  go_wp2
  go_ret
  exact ⟨rfl, rfl⟩

/-- i bytes of a turned key -/
def keyTo (k : Nat) (ks : List Nat) (i : Nat) : List Nat := (keyX k ks).take i ++ List.replicate (64 - i) 0

theorem keyTo_len (k : Nat) {ks : List Nat} (h : ks.length ≤ 64) (i : Nat) (hi : i ≤ 64) : (keyTo k ks i).length = 64 := by
  unfold keyTo
  rw [List.length_append, List.length_take, keyX_len k h, List.length_replicate]
  omega

theorem keyX_at (k : Nat) {ks : List Nat} (h : ks.length ≤ 64) (i : Nat) (hi : i < 64) : (keyX k ks).getD i 0 = xor8 (if i < ks.length then ks.getD i 0 else 0) k := by
  have h1 : (ks ++ Z64.drop ks.length).getD i 0 = if i < ks.length then ks.getD i 0 else 0 := by
    split
    · rename_i hlt
      simp [List.getD, List.getElem?_append_left hlt]
    · rename_i hge
      rw [List.getD, List.getElem?_append_right (by omega), Z64, List.drop_replicate, List.getElem?_replicate]
      split <;> rfl
  have h2 : i < (ks ++ Z64.drop ks.length).length := by rw [List.length_append, List.length_drop, Z64, List.length_replicate]; omega
  unfold keyX
  rw [← h1]
  simp only [List.getD, List.getElem?_map, List.getElem?_eq_getElem h2, Option.map_some, Option.getD_some]

theorem keyTo_set (k : Nat) {ks : List Nat} (h : ks.length ≤ 64) (i : Nat) (hi : i < 64) : (keyTo k ks i).set i (xor8 (if i < ks.length then ks.getD i 0 else 0) k) = keyTo k ks (i + 1) := by
  have hl := keyX_len k h
  have h1 : ((keyX k ks).take i).length = i := by rw [List.length_take, hl]; omega
  unfold keyTo
  rw [set_grow _ i _ _ 0 h1 hi, ← keyX_at k h i hi, take_snoc _ _ (by rw [hl]; exact hi)]

attribute [local go_sem] xor8_54 xor8_92

set_option maxRecDepth 100000 in
set_option maxHeartbeats 4000000 in
theorem rhmac_any {n c m cm : Nat} {a am : Option Addr} {ks msg : List Nat} {w : World} (h : Sl .u8 w a n c ks) (hn : n ≤ 64) (hd : Dg 256 ks) (hm : Sl .u8 w am m cm msg) (hmd : Dg 256 msg) (hml : m < 137438953472) :
    Calls Tryd.prog 36 #[.int .i64 3, .slice a n c, .slice am m cm] w (Gives32 w (hmacS ks msg)) := by
  have HKL := mkHid h.len
  have hkl : ks.length ≤ 64 := by rw [h.len]; exact hn
  have t1 : decide ((n : Int) > 64) = false := decide_eq_false (by omega)
  go_enter Tryd.func36, Tryd.ntmps36
  go_upto_region 6 with (go_at_call 56; (with_reducible refine (rblock_any _).mono ?_); rintro e w' ⟨rfl, rfl⟩)
  go_upto_region 7 with (at_make; refine wpList_mk rfl _ _ _ rfl 5 .u8 1 under_bytes info_u8 64 rfl rfl (by omega) (by omega) (by omega) (by omega) ?_; intro b1 W1 hB1 hq1 hbe1)
  go_upto_region 8 with (at_make; refine wpList_mk rfl _ _ _ rfl 5 .u8 1 under_bytes info_u8 64 rfl rfl (by omega) (by omega) (by omega) (by omega) ?_; intro b2 W2 hB2 hq2 hbe2)
  have hbw := hbe1.trans (hbe2.mono hbe1.size)
  have hwB2 : w.heap.size ≤ b2 := Nat.le_trans hbe1.size hB2
  have hne : b1 ≠ b2 := by have := hq1.lt; omega
  have hq1' : Blk W2 b1 .u8 5 (keyTo 54 ks 0) := hq1.keep hbe2
  have hq2' : Blk W2 b2 .u8 5 (keyTo 92 ks 0) := hq2
  clear hq1 hq2 hbe1 hbe2 hB2
  go_wp2
  go_loopw [10] (fun iv wr => ∃ i : Nat, i ≤ 64 ∧ iv = .int .i64 i ∧ Blk wr b1 .u8 5 (keyTo 54 ks i) ∧ Blk wr b2 .u8 5 (keyTo 92 ks i) ∧ Below w.heap.size w wr) (fun iv _ => 64 - (intOf iv).toNat)
  case atStart => exact ⟨0, by omega, rfl, hq1', hq2', hbw⟩
  case round =>
    clear hq1' hq2' hbw
    obtain ⟨i, hi, rfl, hq1, hq2, hbw⟩ := hrel
    by_cases hlt : i < 64
    · have d1 := hq1.at i (by rw [keyTo_len _ hkl _ hi]; omega)
      have d2 := hq2.at i (by rw [keyTo_len _ hkl _ hi]; omega)
      have s1 := keyTo_set 54 hkl i hlt
      have s2 := keyTo_set 92 hkl i hlt
      generalize (keyTo 54 ks i).getD i 0 = z1 at *
      generalize (keyTo 92 ks i).getD i 0 = z2 at *
      have f1 := hq1.frozen i
      have f2 := hq2.frozen i
      have i64 : (i : Int) < 64 := by omega
      have hne2 : b2 ≠ b1 := Ne.symm hne
      by_cases hik : i < n
      · obtain ⟨ba, oa, x, rfl, hc, hx⟩ := (h.keep hbw).get i hik
        have hxe : (if i < ks.length then ks.getD i 0 else 0) = x := by
          obtain ⟨h1, e1⟩ := hx.out
          rw [if_pos h1]
          simp [List.getD, h1, e1]
        rw [hxe] at s1 s2
        have S1 := mkHid s1
        have S2 := mkHid s2
        have hik' : (i : Int) < (n : Int) := by omega
        clear s1 s2 hxe hx
        go_wp2
        go_roundw
        case rel =>
          refine ⟨i + 1, by omega, by go_num, ?_, ?_, (hbw.setCell (p := ⟨b1, i, none⟩) hB1 _).setCell (p := ⟨b2, i, none⟩) hwB2 _⟩
          · have := (hq1.set i (xor8 x 54)).other (p := ⟨b2, i, none⟩) hne2 (.int .u8 ((xor8 x 92 : Nat) : Int))
            rw [S1.out] at this
            exact this
          · have := (hq2.other (p := ⟨b1, i, none⟩) hne (.int .u8 ((xor8 x 54 : Nat) : Int))).set i (xor8 x 92)
            rw [S2.out] at this
            exact this
        case measure => simp [intOf]; omega
      · have hxe : (if i < ks.length then ks.getD i 0 else 0) = 0 := if_neg (by rw [HKL.out]; exact hik)
        rw [hxe] at s1 s2
        have S1 := mkHid s1
        have S2 := mkHid s2
        have hik' : ¬ (i : Int) < (n : Int) := by omega
        clear s1 s2 hxe
        have x54 : xor8 0 54 = 54 := by decide
        have x92 : xor8 0 92 = 92 := by decide
        have S1' : Hid ((keyTo 54 ks i).set i 54 = keyTo 54 ks (i + 1)) := by rw [← x54]; exact S1
        have S2' : Hid ((keyTo 92 ks i).set i 92 = keyTo 92 ks (i + 1)) := by rw [← x92]; exact S2
        clear S1 S2 x54 x92
        go_wp2
        go_roundw
        case rel =>
          refine ⟨i + 1, by omega, by go_num, ?_, ?_, (hbw.setCell (p := ⟨b1, i, none⟩) hB1 _).setCell (p := ⟨b2, i, none⟩) hwB2 _⟩
          · have := (hq1.set i 54).other (p := ⟨b2, i, none⟩) hne2 (.int .u8 ((92 : Nat) : Int))
            rw [S1'.out] at this
            exact this
          · have := (hq2.other (p := ⟨b1, i, none⟩) hne (.int .u8 ((54 : Nat) : Int))).set i 92
            rw [S2'.out] at this
            exact this
        case measure => simp [intOf]; omega
    · obtain rfl : i = 64 := by omega
      have e1 : keyTo 54 ks 64 = keyX 54 ks := by unfold keyTo; rw [List.take_of_length_le (by rw [keyX_len 54 hkl]; omega), Nat.sub_self, List.replicate_zero, List.append_nil]
      have e2 : keyTo 92 ks 64 = keyX 92 ks := by unfold keyTo; rw [List.take_of_length_le (by rw [keyX_len 92 hkl]; omega), Nat.sub_self, List.replicate_zero, List.append_nil]
      rw [e1] at hq1
      rw [e2] at hq2
      have ho1 := Own.ofBlk hq1 hB1 64 (keyX_len 54 hkl) (by omega)
      have hm1 := hm.keep hbw
      have hz := hbw.size
      clear e1 e2 hlt hi hq1
      have hkm : Dg 256 (keyX 54 ks ++ msg) := (keyX_dg _ _).append hmd
      go_upto_region 17 with (first
        | (at_builtin; refine wpList_appG rfl (.tmp 52) (.tmp 53) 22 rfl 5 .u8 1 under_bytes info_u8 w.heap.size hz (some ⟨b1, 0, none⟩) 64 64 _ rfl ho1 _ _ _ _ rfl hm1 (by omega) (by omega) ?_; intro a3 c3 w3 ho3 hg3; have hO := mkHid (rof_any ho3.sl hkm (by omega)))
        | (go_at_call 57; (with_reducible refine hO.out.mono ?_); rintro e w4 ⟨a4, c4, rfl, ho4, hb4⟩; clear hO))
      have hb3 := below_own hbw ho1 hg3 hz
      have hq23 : Blk w3 b2 .u8 5 (keyX 92 ks) := (hg3.block b2 hq2.lt (by simp [Value.ownBlock]; omega)).trans hq2
      have ho2 := Own.ofBlk (hq23.keep hb4) hwB2 64 (keyX_len 92 hkl) (by omega)
      have hb34 := hb3.trans (hb4.mono hb3.size)
      have hz4 := hb34.size
      have hs4 := ho4.sl
      have hks : Dg 256 (keyX 92 ks ++ sha (keyX 54 ks ++ msg)) := (keyX_dg _ _).append (sha_dg _)
      go_wp2_with (first
        | (at_builtin; refine wpList_appG rfl (.tmp 57) (.tmp 58) 22 rfl 5 .u8 1 under_bytes info_u8 w.heap.size hz4 (some ⟨b2, 0, none⟩) 64 64 _ rfl ho2 _ _ _ _ rfl hs4 (by omega) (by omega) ?_; intro a5 c5 w5 ho5 hg5; have hO := mkHid (rof_any ho5.sl hks (by omega)))
        | (go_at_call 57; (with_reducible refine hO.out.mono ?_); rintro e w6 ⟨a6, c6, rfl, ho6, hb6⟩; clear hO))
      go_ret
      have hb5 := below_own hb34 ho2 hg5 hz4
      exact ⟨a6, c6, rfl, ho6.mono hb5.size, hb5.trans (hb6.mono hb5.size)⟩

theorem rh_any {n c np cp : Nat} {a ap : Option Addr} {ks : List Nat} {pss : List (List Nat)} {w : World} (h : Sl .u8 w a n c ks) (hn : n ≤ 64) (hd : Dg 256 ks) (hp : Pts w ap np pss) (hpd : ∀ ps ∈ pss, Dg 256 ps) (hI : pss.flatten.length < 137438953472) :
    Calls Tryd.prog 23 #[.slice a n c, .slice ap np cp] w (Gives32 w (hmacS ks pss.flatten)) := by
  have hJ := mkHid (join_any (cp := cp) hp (by omega))
  have hfd : Dg 256 pss.flatten := by
    intro x hx
    obtain ⟨l, hl, hx⟩ := List.mem_flatten.1 hx
    exact hpd l hl x hx
  go_enter Tryd.func23, Tryd.ntmps23
  go_wp2_with (first
    | (go_at_call 37; (with_reducible refine hJ.out.mono ?_); rintro e w1 ⟨a1, n1, c1, rfl, ho1, hb1⟩; have hH := mkHid (rhmac_any (h.keep hb1) hn hd ho1.sl hfd (by rw [← ho1.len]; exact hI)))
    | (go_at_call 36; (with_reducible refine hH.out.mono ?_); rintro e w2 ⟨a2, c2, rfl, ho2, hb2⟩))
  go_ret
  exact ⟨a2, c2, rfl, ho2.mono hb1.size, hb1.trans (hb2.mono hb1.size)⟩

end Go.Proofs.YtaeamlldocbeeaaDoor
