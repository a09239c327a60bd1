/- hashes: Sum. -/
import Derived.Test.YtaeamlldocbeeaaDoorHashG
import Derived.Deep.RegionHeld3
namespace Go.Proofs.YtaeamlldocbeeaaDoor
open Go.RowKit Go.Shelf Num

/-- how many noughts stand behind the 128, when r bytes wait -/
def padZ (r : Nat) : Nat := if (r + 9) % 64 = 0 then 0 else 64 - (r + 9) % 64

/-- what is written behind a message of n bytes of which r wait -/
def padS (r n : Nat) : List Nat := (128 :: List.replicate (padZ r) 0) ++ b64 (8 * n)

/-- a state as bytes -/
def wordsS (H : List Nat) : List Nat := (H.map b32).flatten

/-- the hash, from a state -/
def sumS (H xs : List Nat) (n : Nat) : List Nat := wordsS (taken H (xs ++ padS xs.length n) ((xs ++ padS xs.length n).length / 64))

theorem run_index_u64 (t : TypeId) (N : Nat) (w : World) (cs : Array Value) (i x : Nat) (h : Tryd.prog.underlying t = some (.array N 47)) (hi : i < N) (hv : cs[i]? = some (.int .u64 (x : Int))) :
    (Instr.index t (.agg cs) (.int .i64 (i : Int))).run Tryd.prog w = .ok (.int .u64 (x : Int)) w := by
  have hu : Tryd.prog.underlying 47 = some (.int .u64) := by kernel_rfl
  have hsz : (sizeOf 47).run Tryd.prog w = .ok 1 w := by
    unfold sizeOf typeInfo
    kernel_rfl
  have hc : (0 : Int) ≤ (i : Int) ∧ (i : Int) < (N : Int) := by omega
  simp [Instr.index, run_underlying h, asIntOf, hc, hsz, part, isAgg, run_underlying hu, hv, go_sem]
  intro hc2
  omega

theorem lit8 (t0 t1 t2 t3 t4 t5 t6 t7 : Nat) (i : Nat) (hi : i < 8) : (#[Value.int .u64 (t0 : Int), .int .u64 (t1 : Int), .int .u64 (t2 : Int), .int .u64 (t3 : Int), .int .u64 (t4 : Int), .int .u64 (t5 : Int), .int .u64 (t6 : Int), .int .u64 (t7 : Int)] : Array Value)[i]? =
    some (.int .u64 (([t0, t1, t2, t3, t4, t5, t6, t7].getD i 0 : Nat) : Int)) := by
  match i, hi with
  | 0, _ | 1, _ | 2, _ | 3, _ | 4, _ | 5, _ | 6, _ | 7, _ => rfl

theorem wordsS_snoc (H : List Nat) (x : Nat) : wordsS (H ++ [x]) = wordsS H ++ b32 x := by
  unfold wordsS
  simp

set_option maxRecDepth 100000 in
set_option maxHeartbeats 4000000 in
theorem sum_any {hb n nw cw : Nat} {a : Option Addr} {H xs : List Nat} {w : World} (h : HSt w hb H xs n a nw cw) (hk : KTab w) (hx : nw < 64) (hn : n < 1099511627776) :
    Calls Tryd.prog 70 #[.pointer (some ⟨hb, 0, none⟩)] w fun e w' => ∃ a' c', e = .returned (.slice a' 32 c') ∧ Own .u8 5 w.heap.size w' a' 32 c' (sumS H xs n) ∧ Below w.heap.size w w' := by
  have hbd : Below w.heap.size w w.drew := (Below.refl _ _).drew
  have row := h.row
  have c0 : w.cell? ⟨hb, 0, none⟩ = some (.int .i64 3) := Row.cell row 0
  have c0d : w.drew.cell? ⟨hb, 0, none⟩ = some (.int .i64 3) := c0
  have hcopy := fun W (hW : Below w.heap.size w W) => copy_any (w := W) (hb := hb) (n := n) (nw := nw) (cw := cw) (a := a) (H := H) (xs := xs) ⟨Row.keep row hW, h.own.keep hW, h.hH, h.hHd, h.hx⟩ (hk.keep hW) (by omega)
  go_enter Tryd.func70, Tryd.ntmps70
  go_upto_region 3 with (fail)
  go_cut [3, 4] from 13 to 19 (fun q r wc => ∃ hb' a' n' c', q = .pointer (some ⟨hb', 0, none⟩) ∧ r = .int .i64 64 ∧ HSt wc hb' H xs n a' n' c' ∧ w.heap.size ≤ hb' ∧ (∀ p, a' = some p → w.heap.size ≤ p.block) ∧ Below w.heap.size w wc)
  case first =>
    refine wp_region_noPanic ?_
    go_region_with (first
      | (go_at_call 69; (with_reducible refine (hcopy _ hbd).mono ?_); rintro e wq ⟨hb', a', n', c', rfl, hst, q1, q2, q3⟩; have c0q := (q3.cell (cell_lt c0d)).trans c0d)
      | (go_at_call 65; (with_reducible refine (hblock_any _).mono ?_); rintro e wr ⟨rfl, rfl⟩))
    all_goals (
      refine NoPanic.normal ?_
      go_wp2
      go_meet
      case rel => exact ⟨_, _, _, _, rfl, rfl, hst, q1, q2, hbd.trans q3⟩)
  case rest =>
    obtain ⟨hb', a', n', c', rfl, rfl, hst, q1, q2, q3⟩ := hcut
    obtain ⟨wA, rfl⟩ : ∃ x, x = wc := ⟨_, rfl⟩
    obtain rfl : n' = nw := by rw [← hst.own.len, ← h.own.len]
    have hk' := hk.keep q3
    have row' := hst.row
    have hH8 := hst.hH
    obtain ⟨h0, h1, h2, h3, h4, h5, h6, h7, rfl⟩ := list8 hH8
    have rowL : Row wA hb' 112 [.int .i64 3, .int .u64 (h0 : Int), .int .u64 (h1 : Int), .int .u64 (h2 : Int), .int .u64 (h3 : Int), .int .u64 (h4 : Int), .int .u64 (h5 : Int), .int .u64 (h6 : Int), .int .u64 (h7 : Int), .slice a' n' c', .int .u64 (n : Int)] := row'
    have c9 : wA.cell? ⟨hb', 9, none⟩ = some (.slice a' n' c') := rowL.cell 9
    obtain ⟨m, hm⟩ : ∃ m, m = (n' + 9) % 64 := ⟨_, rfl⟩
    have hm64 : m < 64 := by omega
    obtain ⟨M, hM⟩ : ∃ M, M + m = 65 := ⟨65 - m, by omega⟩
    have hM1 : 1 ≤ M ∧ M ≤ 65 := by omega
    clear c0 c0d hcopy hbd
    have HM := mkHid hM
    have Hm := mkHid hm
    go_upto_region 6 with (at_make; refine wpList_mk rfl _ _ _ rfl 5 .u8 1 under_bytes info_u8 M rfl rfl (by have := HM.out; have := Hm.out; omega) (by have := HM.out; have := Hm.out; omega) (by omega) (by omega) ?_; intro pb W2 hpB hpb hbe2)
    have row2 := rowL.keep hbe2
    have c92 : W2.cell? ⟨hb', 9, none⟩ = some (.slice a' n' c') := row2.cell 9
    obtain ⟨dd, hdd⟩ : ∃ dd, (((n' : Int) + 1 + 8) % 64 == 0) = dd := ⟨_, rfl⟩
    have HD := mkHid hdd
    clear hM hm c9
    go_upto_if 46 with (fail)
    go_cut [6] from 47 to 48 (fun q wx => ∃ p : Nat, q = .slice (some ⟨pb, 0, none⟩) p M ∧ Hid (p = padZ n' + 1) ∧ p ≤ M ∧ 0 < p ∧ W2 = wx)
    case first =>
      cases dd with
      | true =>
        have iM : (1 : Int) ≤ (M : Int) := by omega
        go_wp2
        go_meet
        case rel =>
          refine ⟨1, rfl, ?_, by omega, by omega, rfl⟩
          show _ = _
          have h1 := HD.out
          have h2 : (n' + 9) % 64 = 0 := by
            have := eq_of_beq h1
            omega
          unfold padZ
          rw [if_pos h2]
      | false =>
        go_wp2
        go_meet
        case rel =>
          refine ⟨M, rfl, ?_, by omega, by omega, rfl⟩
          show _ = _
          have h1 := HD.out
          have h2 : ¬ (n' + 9) % 64 = 0 := by
            intro e
            have : ((n' : Int) + 1 + 8) % 64 = 0 := by omega
            rw [this] at h1
            cases h1
          unfold padZ
          rw [if_neg h2]
          have := HM.out
          have := Hm.out
          omega
    case rest =>
      obtain ⟨p, rfl, hp, hpM, hp0, hwx⟩ := hcut
      subst hwx
      obtain ⟨z0, hcb, hfb, _⟩ := hpb.get 0 (by rw [List.length_replicate]; omega)
      have ip : (0 : Int) < (p : Int) := by omega
      go_upto_region 9 with (fail)
      have hbe3 : Below wA.heap.size wA (W2.setCell ⟨pb, 0, none⟩ (.int .u8 128)) := hbe2.setCell (p := ⟨pb, 0, none⟩) hpB _
      have hpb3 := hpb.set 0 128
      have hpb3' : Blk (W2.setCell ⟨pb, 0, none⟩ (.int .u8 128)) pb .u8 5 ((List.replicate M 0).set 0 128) := hpb3
      generalize W2.setCell ⟨pb, 0, none⟩ (.int .u8 128) = W3 at *
      clear hcb hfb hpb hpb3 row2 c92
      obtain ⟨N8, hN8⟩ : ∃ x, x = 8 * n := ⟨_, rfl⟩
      have e8 : (n : Int) * 8 = (N8 : Int) := by omega
      have hN8l : N8 < 18446744073709551616 := by omega
      have hw8 : IntKind.u64.wrap (N8 : Int) = (N8 : Int) := by rw [IntKind.wrap_u64]; omega
      have HN8 := mkHid hN8
      clear hN8
      have hnum : ∀ W, Below wA.heap.size wA W → W.cell? ⟨hb, 10, none⟩ = some (.int .u64 (n : Int)) := by
        intro W hW
        have := Row.cell ((Row.keep row q3).keep hW) 10
        exact this
      go_upto_region 10 with (at_make; refine wpList_mk rfl _ _ _ rfl 5 .u8 1 under_bytes info_u8 8 rfl rfl (by omega) (by omega) (by omega) (by omega) ?_; intro lb W4 hlB hlb hbe4)
      have hbe4' := hbe3.trans (hbe4.mono hbe3.size)
      have hlw : wA.heap.size ≤ lb := Nat.le_trans hbe3.size hlB
      have hput := put64_any (w := W4.drew) (x := N8) hlb.drew (by rw [List.length_replicate])
      have HPUT := mkHid hput
      have c10d : W4.drew.cell? ⟨hb, 10, none⟩ = some (.int .u64 (n : Int)) := hnum _ hbe4'.drew
      clear hput
      go_cut [7] from 53 to 62 (fun q wx => q = .slice (some ⟨lb, 0, none⟩) 8 8 ∧ Blk wx lb .u8 5 (b64 N8) ∧ W4.grownBy wx (some lb))
      case first =>
        refine wp_region_noPanic ?_
        go_region_with (go_at_call 78; (with_reducible refine HPUT.out.mono ?_); rintro e W5 ⟨⟨v, rfl⟩, hlb5, hg5⟩)
        all_goals (
          refine NoPanic.normal ?_
          go_wp2
          go_meet
          case rel => exact ⟨rfl, hlb5, grown_trans (grown_drew (grown_refl _ _)) hg5⟩)
      case rest =>
        obtain ⟨rfl, hlb5, hg5⟩ := hcut
        have hpbl : pb < W3.heap.size := hpb3'.lt
        have hpb5 := (hpb3'.keep hbe4).grown hg5 (by omega)
        have hbe5 := hbe4'.trans (grown_below hg5 hlw hbe4'.size)
        have hpe : p = padZ n' + 1 := hp.out
        have hpd : ((List.replicate M 0).set 0 128).take p = 128 :: List.replicate (padZ n') 0 := by
          obtain ⟨M', rfl⟩ : ∃ M', M = M' + 1 := ⟨M - 1, by omega⟩
          rw [hpe, List.replicate_succ, List.set_cons_zero, List.take_succ_cons, List.take_replicate, Nat.min_eq_left (by omega)]
        have hpo : Own .u8 5 wA.heap.size wc (some ⟨pb, 0, none⟩) p M (128 :: List.replicate (padZ n') 0) := by
          rw [← hpd]
          refine ⟨by rw [List.length_take, List.length_set, List.length_replicate]; omega, .inr ⟨pb, U .u8 (((List.replicate M 0).set 0 128).drop p), rfl, hpB, ?_, by omega, ?_⟩⟩
          · rw [U_length, List.length_drop, List.length_set, List.length_replicate]; omega
          · rw [← U_append, List.take_append_drop]
            exact hpb5
        have hls := hlb5.sl 8 rfl (by omega)
        have hst5 := fun W (hW : Below wA.heap.size wA W) => (⟨Row.keep hst.row hW, hst.own.keep hW, hst.hH, hst.hHd, hst.hx⟩ : HSt W hb' [h0, h1, h2, h3, h4, h5, h6, h7] xs n a' n' c')
        have hdp : Dg 256 ((128 :: List.replicate (padZ n') 0) ++ b64 N8) := by
          refine Dg.append (Dg.cons (by omega) (Dg.replicate (by omega) _)) ?_
          unfold b64
          intro x hx
          simp only [List.mem_cons, List.not_mem_nil, or_false] at hx
          omega
        have hsB : wA.heap.size ≤ wc.heap.size := hbe5.size
        have hp73 : p ≤ 65 := by omega
        clear hpe
        go_upto_region 14 with (first
          | (at_builtin; refine wpList_app rfl (.tmp 76) (.tmp 77) 22 rfl 5 .u8 1 under_bytes info_u8 wA.heap.size (some ⟨pb, 0, none⟩) p M _ rfl hpo _ _ _ _ rfl hls (by omega) (by omega) hsB ?_; intro a7 c7 W7 ho7 hb7)
          | (go_at_call 68; (with_reducible refine (write_any (hst5 W7 (hbe5.trans hb7)) ho7.sl hdp (hk'.keep (hbe5.trans hb7)) (by omega) (by omega)).mono ?_); rintro e W8 ⟨⟨v, rfl⟩, a8, n8, c8, hst8, hfr8, ho8⟩))
        have hbW8 : Below w.heap.size w W8 := by
          have h7 : Below w.heap.size w W7 := q3.trans ((hbe5.trans hb7).mono q3.size)
          refine h7.trans (ho8.below _ q1 ?_ h7.size)
          cases a' with
          | none => exact q1
          | some p' => exact q2 p' rfl
        obtain ⟨T, hT⟩ : ∃ T, T = taken [h0, h1, h2, h3, h4, h5, h6, h7] (xs ++ ((128 :: List.replicate (padZ n') 0) ++ b64 N8)) ((xs ++ ((128 :: List.replicate (padZ n') 0) ++ b64 N8)).length / 64) := ⟨_, rfl⟩
        rw [← hT] at hst8
        have hsum : Hid (sumS [h0, h1, h2, h3, h4, h5, h6, h7] xs n = wordsS T) := by
          show _ = _
          rw [hT, HN8.out]
          unfold sumS padS
          rw [hst.own.len]
        have hr8 := hst8.row
        have hT8 := hst8.hH
        have hTd := hst8.hHd
        clear hT hst5 hnum HPUT hpo hpd hls hdp
        obtain ⟨t0, t1, t2, t3, t4, t5, t6, t7, rfl⟩ := list8 hT8
        have rowT : Row W8 hb' 112 [.int .i64 3, .int .u64 (t0 : Int), .int .u64 (t1 : Int), .int .u64 (t2 : Int), .int .u64 (t3 : Int), .int .u64 (t4 : Int), .int .u64 (t5 : Int), .int .u64 (t6 : Int), .int .u64 (t7 : Int), .slice a8 n8 c8, .int .u64 ((n + (p + 8) : Nat) : Int)] := hr8
        have d1 : W8.cell? ⟨hb', 1, none⟩ = some (.int .u64 (t0 : Int)) := rowT.cell 1
        have d2 : W8.cell? ⟨hb', 2, none⟩ = some (.int .u64 (t1 : Int)) := rowT.cell 2
        have d3 : W8.cell? ⟨hb', 3, none⟩ = some (.int .u64 (t2 : Int)) := rowT.cell 3
        have d4 : W8.cell? ⟨hb', 4, none⟩ = some (.int .u64 (t3 : Int)) := rowT.cell 4
        have d5 : W8.cell? ⟨hb', 5, none⟩ = some (.int .u64 (t4 : Int)) := rowT.cell 5
        have d6 : W8.cell? ⟨hb', 6, none⟩ = some (.int .u64 (t5 : Int)) := rowT.cell 6
        have d7 : W8.cell? ⟨hb', 7, none⟩ = some (.int .u64 (t6 : Int)) := rowT.cell 7
        have d8 : W8.cell? ⟨hb', 8, none⟩ = some (.int .u64 (t7 : Int)) := rowT.cell 8
        go_upto_region 16 with (fail)
        have hlit := lit8 t0 t1 t2 t3 t4 t5 t6 t7
        have c08 : ∀ W, Below W8.heap.size W8 W → W.cell? ⟨hb, 0, none⟩ = some (.int .i64 3) := fun W hW => Row.cell (Row.keep row (hbW8.trans (hW.mono hbW8.size))) 0
        have htk8 : [t0, t1, t2, t3, t4, t5, t6, t7].take 8 = [t0, t1, t2, t3, t4, t5, t6, t7] := rfl
        have hlen8 : [t0, t1, t2, t3, t4, t5, t6, t7].length = 8 := rfl
        go_wp2
        go_loopw [84, 8] (fun iv qv wr => ∃ (i : Nat) (a : Option Addr) (c : Nat), i ≤ 8 ∧ iv = .int .i64 i ∧ qv = .slice a (4 * i) c ∧ Own .u8 5 W8.heap.size wr a (4 * i) c (wordsS ([t0, t1, t2, t3, t4, t5, t6, t7].take i)) ∧ Below W8.heap.size W8 wr) (fun iv _ _ => 8 - (intOf iv).toNat)
        case atStart => exact ⟨0, none, 0, by omega, rfl, rfl, Own.nilOwn _ _ _ _, Below.refl _ _⟩
        case round =>
          obtain ⟨i, aq, cq, hi, rfl, rfl, hoq, hbq⟩ := hrel
          by_cases hlt : i < 8
          · have hxa := hlit i hlt
            have hxl : [t0, t1, t2, t3, t4, t5, t6, t7].getD i 0 < 4294967296 := by
              rw [List.getD, List.getElem?_eq_getElem (by simpa using hlt)]
              exact hTd.at _ _
            have hts := take_snoc [t0, t1, t2, t3, t4, t5, t6, t7] i (by simpa using hlt)
            have HTS := mkHid hts
            clear hts
            generalize hX : [t0, t1, t2, t3, t4, t5, t6, t7].getD i 0 = x at *
            have hidx := fun w => run_index_u64 109 8 w _ i x under_a64 hlt hxa
            have i8 : (i : Int) < 8 := by omega
            clear hX
            go_wp2_with (go_at_call 79; (with_reducible refine (append32_any hoq hbq.size (by omega)).mono ?_); rintro e w9 ⟨a9, c9', rfl, ho9, hb9⟩)
            go_roundw
            case rel => exact ⟨i + 1, a9, c9', by omega, by go_num, rfl, by rw [← HTS.out, wordsS_snoc]; exact ho9, hbq.trans hb9⟩
            case measure => simp [intOf]; omega
          · obtain rfl : i = 8 := by omega
            rw [htk8, ← hsum.out] at hoq
            have c0w := c08 _ hbq
            have hle : 4 * 8 ≤ cq := hoq.sl.le
            have hle2 : (32 : Int) ≤ (cq : Int) := by omega
            go_wp2_with (go_at_call 53; (with_reducible refine (hsize_any _).mono ?_); rintro e w9 ⟨rfl, rfl⟩)
            go_ret
            exact ⟨_, _, rfl, hoq.mono hbW8.size, hbW8.trans (hbq.mono hbW8.size)⟩

end Go.Proofs.YtaeamlldocbeeaaDoor
