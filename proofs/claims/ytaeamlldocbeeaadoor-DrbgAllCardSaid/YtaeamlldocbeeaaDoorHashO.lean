/- baileyref3: sha256. -/
import Derived.Test.YtaeamlldocbeeaaDoorHashN
import Derived.Test.YtaeamlldocbeeaaDoorQuietT
namespace Go.Proofs.YtaeamlldocbeeaaDoor
open Go.RowKit Go.Shelf Num

theorem under_words : Tryd.prog.underlying 105 = some (.slice 82) := by kernel_rfl
theorem info_u32 : (Tryd.prog.info? 82).map (fun i => (i.zero, i.size, i.bytes)) = some (some (.int .u32 0), 1, 4) := by kernel_rfl

/-- the reference's call of right, as a still one -/
theorem still_of {k : IntKind} {f : FuncId} {args : Array Value} {w : World} {x : Nat} (h : Calls Tryd.prog f args w (RetN k w x)) : Calls Tryd.prog f args w fun e w' => e = .returned (.int k (x : Int)) ∧ w' = w :=
  h.mono fun _ _ hg => ⟨hg.1, hg.2.symm⟩

theorem getD_take {B : List Nat} {n i : Nat} (h : i < n) : (B.take n).getD i 0 = B.getD i 0 := by
  simp [List.getD, h]

theorem blkW_take (B : List Nat) (t : Nat) (h : t < 16) : blkW (B.take 64) t = blkW B t := by
  unfold blkW
  rw [getD_take (by omega), getD_take (by omega), getD_take (by omega), getD_take (by omega)]

theorem padS_len (n : Nat) : ∃ q, n + (padS (n % 64) n).length = 64 * q := by
  have h1 : (b64 (8 * n)).length = 8 := rfl
  have h2 : (padS (n % 64) n).length = padZ (n % 64) + 9 := by
    unfold padS
    rw [List.length_append, List.length_cons, List.length_replicate, h1]
  rw [h2]
  unfold padZ
  split
  · exact ⟨(n + 9) / 64, by omega⟩
  · exact ⟨(n + 9) / 64 + 1, by omega⟩

theorem padS_dg (r n : Nat) : Dg 256 (padS r n) := by
  unfold padS
  refine Dg.append (Dg.cons (by omega) (Dg.replicate (by omega) _)) ?_
  unfold b64
  intro x hx
  simp only [List.mem_cons, List.not_mem_nil, or_false] at hx
  omega

theorem sl_new (W : World) (k : IntKind) (T : TypeId) (xs : List Nat) (n : Nat) (arr : Array Value) (ha : arr = (U k xs).toArray) (hn : xs.length = n) (hc : n ≤ 9223372036854775807) (b : Nat) (hb : b = W.heap.size) : Sl k (W.alloc (Obj.cells arr T)) (some ⟨b, 0, none⟩) n n xs := by
  subst ha
  subst hb
  exact Blk.sl (T := T) (heap_alloc_new _ _) n hn hc

attribute [local go_sem] xor32_eq and32_eq add32_eq not32_eq

set_option maxRecDepth 100000 in
set_option maxHeartbeats 8000000 in
theorem rsha_any {n c hb : Nat} {a : Option Addr} {b H : List Nat} {w : World} (h : Sl .u8 w a n c b) (hd : Dg 256 b) (hn : n < 274877906944) (hh : Blk w hb .u32 82 H) (hH : H.length = 8) (hHd : Dg 4294967296 H) :
    Calls Tryd.prog 72 #[.slice a n c, .slice (some ⟨hb, 0, none⟩) 8 8] w fun e w' => ∃ a' c', e = .returned (.slice a' 32 c') ∧ Own .u8 5 w.heap.size w' a' 32 c' (wordsS (taken H (b ++ padS (n % 64) n) ((b ++ padS (n % 64) n).length / 64))) ∧ w.grownBy w' (some hb) := by
  have hbl := hh.lt
  have HL := mkHid h.len
  have hK := mkHid (k256_any w)
  go_enter Tryd.func72, Tryd.ntmps72
  go_upto_region 2 with (go_at_call 85; (with_reducible refine hK.out.mono ?_); rintro e w1 ⟨kb, rfl, hkb, hkB, hb1⟩)
  have hP := mkHid (pad_any (h.keep hb1) (by omega))
  clear hK
  go_upto_region 3 with (go_at_call 81; (with_reducible refine hP.out.mono ?_); rintro e w2 ⟨pa, L, pc, rfl, hpo, hb2⟩)
  have hz1 := hb1.size
  have hb12 := hb1.trans (hb2.mono hz1)
  have hkb2 := hkb.keep hb2
  have hh2 := (hh.keep hb1).keep hb2
  have hkl2 := hkb2.lt
  obtain ⟨q, hq⟩ := padS_len n
  have hLq : L = 64 * q := by
    have := hpo.len
    rw [List.length_append, HL.out] at this
    omega
  have hmd : Dg 256 (b ++ padS (n % 64) n) := hd.append (padS_dg _ _)
  have hpl := mkHid hpo.len
  have hps := hpo.sl
  have hpne : ∀ p, pa = some p → p.block ≠ hb := fun p e => by have := hpo.fresh p e; omega
  generalize hM : b ++ padS (n % 64) n = M at *
  have HM := mkHid hM
  have HLQ := mkHid hLq
  clear hP hkb hh hq hb1 hb2 h hd hM hLq
  go_loopw [6] (fun mv wr => ∃ (j m c : Nat) (a : Option Addr), Hid (64 * j + m = L) ∧ mv = .slice a m c ∧ Sl .u8 wr a m c (M.drop (64 * j)) ∧ (∀ p, a = some p → p.block ≠ hb) ∧ Blk wr hb .u32 82 (taken H M j) ∧ Blk wr kb .u32 82 K256 ∧ w2.grownBy wr (some hb)) (fun mv _ => match mv with | .slice _ m _ => m | _ => 0)
  case atStart => exact ⟨0, L, pc, pa, by show _ = _; omega, rfl, by simpa using hps, hpne, hh2, hkb2, grown_refl _ _⟩
  case round =>
    clear hps hpne hh2 hkb2 hpo
    obtain ⟨j, m, c, a, HJM, rfl, hsl, hne, hhb, hkb, hg⟩ := hrel
    by_cases h0 : 0 < m
    · have h64 : 64 ≤ m := by have := HJM.out; have := HLQ.out; omega
      obtain ⟨pb, po, rfl⟩ := hsl.addr h0
      have hmc := hsl.le
      have hcap := hsl.cap
      obtain ⟨W0, rfl⟩ : ∃ x, x = wr := ⟨_, rfl⟩
      have hmd' : Dg 256 (M.drop (64 * j)) := hmd.drop _
      have hml := mkHid hsl.len
      have hz2 := hg.size
      have hhbl := hhb.lt
      have hkbl := hkb.lt
      have HT := mkHid (taken_len (all := M) hH j)
      have hTd := taken_dg (all := M) hHd j
      clear hH hHd
      go_upto_region 6 with (at_make; refine wpList_mk rfl _ _ _ rfl 82 .u32 4 under_words info_u32 64 rfl rfl (by omega) (by omega) (by omega) (by omega) ?_; intro wb W3 hwB hwb hbe3)
      go_wp2
      go_loopw [8] (fun iv wr => ∃ i : Nat, i ≤ 64 ∧ iv = .int .i64 i ∧ Blk wr wb .u32 82 (sched (chunk M j) i ++ List.replicate (64 - i) 0) ∧ Below W0.heap.size W0 wr) (fun iv _ => 64 - (intOf iv).toNat)
      case atStart => exact ⟨0, by omega, rfl, hwb, hbe3⟩
      case round =>
        clear hwb hbe3
        obtain ⟨i, hi, rfl, hblk, hbel⟩ := hrel
        by_cases hlt : i < 64
        · have hl := sched_length (chunk M j) i
          obtain ⟨z0, hcb, hfb, _⟩ := hblk.get i (by rw [List.length_append, List.length_replicate]; omega)
          have i64 : (i : Int) < 64 := by omega
          by_cases h16 : i < 16
          · have t2 : decide ((i : Int) < 16) = true := decide_eq_true (by omega)
            have e4 : wrap64 (4 * (i : Int)) = ((4 * i : Nat) : Int) := by rw [IntWalk.wrap64_in _ (by omega)]; omega
            have i4 : ((4 * i : Nat) : Int) ≤ (m : Int) := by omega
            have hWd := word_blk (hsl.keep hbel) hmd' i h16 h64
            have hbw : blkW (M.drop (64 * j)) i = blkW (chunk M j) i := (blkW_take _ i h16).symm
            rw [hbw] at hWd
            have HW := mkHid hWd
            clear hcb hfb hWd hbw
            go_wp2_with (go_at_call 82; (with_reducible refine HW.out.mono ?_); rintro e wq ⟨rfl, hbq⟩; have hblkq := hblk.keep hbq; obtain ⟨z0, hcb, hfb, _⟩ := hblkq.get i (by rw [List.length_append, List.length_replicate]; omega))
            go_roundw
            case rel =>
              refine ⟨i + 1, by omega, by go_num, ?_, (hbel.trans (hbq.mono hbel.size)).setCell hwB _⟩
              have := hblkq.set i (blkW (chunk M j) i)
              rwa [set_grow _ i _ _ 0 hl (by omega), sched_lo _ i h16] at this
            case measure => simp [intOf]; omega
          · have t2 : decide ((i : Int) < 16) = false := decide_eq_false (by omega)
            obtain ⟨p16, e16, l16⟩ : ∃ p : Nat, (i : Int) - 16 = (p : Int) ∧ (p + 16 ≤ i ∧ i ≤ p + 16) := ⟨i - 16, by omega, by omega⟩
            obtain ⟨p15, e15, l15⟩ : ∃ p : Nat, (i : Int) - 15 = (p : Int) ∧ (p + 15 ≤ i ∧ i ≤ p + 15) := ⟨i - 15, by omega, by omega⟩
            obtain ⟨p7, e7, l7⟩ : ∃ p : Nat, (i : Int) - 7 = (p : Int) ∧ (p + 7 ≤ i ∧ i ≤ p + 7) := ⟨i - 7, by omega, by omega⟩
            obtain ⟨p2, e2, l2⟩ : ∃ p : Nat, (i : Int) - 2 = (p : Int) ∧ (p + 2 ≤ i ∧ i ≤ p + 2) := ⟨i - 2, by omega, by omega⟩
            obtain ⟨x16, c16, _, g16⟩ := hblk.get p16 (by rw [List.length_append, List.length_replicate]; omega)
            obtain ⟨x15, c15, _, g15⟩ := hblk.get p15 (by rw [List.length_append, List.length_replicate]; omega)
            obtain ⟨x7, c7, _, g7⟩ := hblk.get p7 (by rw [List.length_append, List.length_replicate]; omega)
            obtain ⟨x2, c2, _, g2⟩ := hblk.get p2 (by rw [List.length_append, List.length_replicate]; omega)
            have i16 : (p16 : Int) < 64 := by omega
            have i15 : (p15 : Int) < 64 := by omega
            have i7 : (p7 : Int) < 64 := by omega
            have i2 : (p2 : Int) < 64 := by omega
            obtain ⟨y15, hy15⟩ : ∃ y, y = x15 / 8 := ⟨_, rfl⟩
            obtain ⟨y2, hy2⟩ : ∃ y, y = x2 / 1024 := ⟨_, rfl⟩
            have d15 : (x15 : Int) / 8 = (y15 : Int) := by rw [hy15]; rfl
            have d2 : (x2 : Int) / 1024 = (y2 : Int) := by rw [hy2]; rfl
            have HY15 := mkHid hy15
            have HY2 := mkHid hy2
            clear hy15 hy2
            go_wp2
            have w16 : IntKind.i64.wrap (p16 : Int) = (p16 : Int) := i64_nat _ (by omega)
            have w7 : IntKind.i64.wrap (p7 : Int) = (p7 : Int) := i64_nat _ (by omega)
            refine wp_region_quiet_tail 32 (by kernel_rfl) (by kernel_rfl) ?_
            simp only [List.take_succ_cons, List.take_zero, List.drop_succ_cons, List.drop_zero]
            repeat (first
              | go_big_quiet_skip
              | (go_big_quiet_want; go_big_quiet_op; first
                  | go_big_quiet_on
                  | (apply Exists.intro
                     refine ⟨?_, ?_⟩
                     · ((first | with_reducible refine right7_any.mono ?_ | with_reducible refine right18_any.mono ?_ | with_reducible refine right17_any.mono ?_ | with_reducible refine right19_any.mono ?_); exact fun e w' hg => ⟨hg.1, hg.2.symm⟩)
                     go_big_quiet_on)))
            refine wpQuiet_nil ?_
            have hblkq : Blk wr.drew wb .u32 82 (sched (chunk M j) i ++ List.replicate (64 - i) 0) := hblk.drew
            have hbelq := hbel.drew
            have kcb : wr.drew.cell? ⟨wb, i, none⟩ = some (.int .u32 (z0 : Int)) := hcb
            have kfb : wr.drew.frozen? ⟨wb, i, none⟩ = false := hfb
            clear c16 c15 c7 c2 hcb hfb hblk hbel w16 w7
            generalize wr.drew = wq at *
            go_wp2
            go_roundw
            case rel =>
              refine ⟨i + 1, by omega, by go_num, ?_, hbelq.setCell hwB _⟩
              have hv := nextW_mk l16 l15 l7 l2 (grow_get hl (by omega) g16) (grow_get hl (by omega) g15) (grow_get hl (by omega) g7) (grow_get hl (by omega) g2) HY15.out HY2.out
              rw [hv]
              have := hblkq.set i (nextW (sched (chunk M j) i) i)
              rw [set_grow _ i _ _ 0 hl (by omega), sched_hi _ i h16] at this
              exact this
            case measure => simp [intOf]; omega
        · obtain rfl : i = 64 := by omega
          rw [Nat.sub_self, List.replicate_zero, List.append_nil] at hblk
          have hhb' := hhb.keep hbel
          have hhs := hhb'.sl 8 HT.out (by omega)
          have hz3 := hbel.size
          clear hlt hi
          go_upto_region 15 with (at_builtin; refine wpList_app rfl (.const (.slice none 0 0)) (.tmp 83) 105 rfl 82 .u32 4 under_words info_u32 wr.heap.size none 0 0 [] rfl (Own.nilOwn _ _ _ _) _ _ _ _ rfl hhs (by omega) (by omega) (Nat.le_refl _) ?_; intro va vc W4 hvo hb4)
          rw [List.nil_append] at hvo
          have hvs := hvo.sl
          have hvf : ∀ p, va = some p → W0.heap.size ≤ p.block := fun p e => Nat.le_trans hz3 (hvo.fresh p e)
          have hbw4 := hbel.trans (hb4.mono hz3)
          have hblk4 := hblk.keep hb4
          clear hvo hblk hbel hhb' hhs
          obtain ⟨h0', h1', h2', h3', h4', h5', h6', h7', hHj⟩ := list8 HT.out
          obtain ⟨Hj, hHj0⟩ : ∃ x, x = taken H M j := ⟨_, rfl⟩
          rw [← hHj0] at hvs hHj hhb hTd
          have HJ := mkHid hHj0
          have HHJ := mkHid hHj
          clear hHj hHj0
          go_wp2
          obtain ⟨vb, vo, rfl⟩ := hvs.addr (by omega)
          rw [Nat.zero_add] at hvs
          have hhbl4 := hhb.keep hbw4
          have hkb4 := hkb.keep hbw4
          have hsl4 := hsl.keep hbw4
          have hSC := mkHid (sched_length (chunk M j) 64)
          go_loopw [11, 12] (fun vv iv wr => ∃ (i a b c d e f g k : Nat) (vb vo vc : Nat), i ≤ 64 ∧ iv = .int .i64 i ∧ vv = .slice (some ⟨vb, vo, none⟩) 8 vc ∧ Hid (rounds (sched (chunk M j) 64) Hj i = [a, b, c, d, e, f, g, k]) ∧ W0.heap.size ≤ vb ∧ Sl .u32 wr (some ⟨vb, vo, none⟩) 8 vc [a, b, c, d, e, f, g, k] ∧ Below W4.heap.size W4 wr) (fun _ iv _ => 64 - (intOf iv).toNat)
          case atStart => exact ⟨0, _, _, _, _, _, _, _, _, vb, vo, vc, by omega, rfl, rfl, by show _ = _; exact HHJ.out, hvf _ rfl, by rw [← HHJ.out]; exact hvs, Below.refl _ _⟩
          case round =>
            clear hvs
            obtain ⟨i, va, vb', vc', vd, ve, vf, vg, vk, vb, vo, vc, hi, rfl, rfl, hrd, hvB, hvs, hbel⟩ := hrel
            by_cases hlt : i < 64
            · have c0 : wr.cell? ⟨vb, vo, none⟩ = some (.int .u32 (va : Int)) := hvs.cell 0 (by simp)
              have c1 : wr.cell? ⟨vb, vo + 1, none⟩ = some (.int .u32 (vb' : Int)) := hvs.cell 1 (by simp)
              have c2 : wr.cell? ⟨vb, vo + 2, none⟩ = some (.int .u32 (vc' : Int)) := hvs.cell 2 (by simp)
              have c3 : wr.cell? ⟨vb, vo + 3, none⟩ = some (.int .u32 (vd : Int)) := hvs.cell 3 (by simp)
              have c4 : wr.cell? ⟨vb, vo + 4, none⟩ = some (.int .u32 (ve : Int)) := hvs.cell 4 (by simp)
              have c5 : wr.cell? ⟨vb, vo + 5, none⟩ = some (.int .u32 (vf : Int)) := hvs.cell 5 (by simp)
              have c6 : wr.cell? ⟨vb, vo + 6, none⟩ = some (.int .u32 (vg : Int)) := hvs.cell 6 (by simp)
              have c7 : wr.cell? ⟨vb, vo + 7, none⟩ = some (.int .u32 (vk : Int)) := hvs.cell 7 (by simp)
              have hkc := (hkb4.keep hbel).at i hlt
              have hwc := (hblk4.keep hbel).at i (by rw [hSC.out]; exact hlt)
              obtain ⟨kk, hkk⟩ : ∃ x, x = K256.getD i 0 := ⟨_, rfl⟩
              obtain ⟨x, hx⟩ : ∃ x, x = (sched (chunk M j) 64).getD i 0 := ⟨_, rfl⟩
              rw [← hkk] at hkc
              rw [← hx] at hwc
              have HKK := mkHid hkk
              have HX := mkHid hx
              have i64 : (i : Int) < 64 := by omega
              clear hkk hx
              go_wp2
              go_quiet (((first | with_reducible refine right6_any.mono ?_ | with_reducible refine right11_any.mono ?_ | with_reducible refine right25_any.mono ?_); exact fun e w' hg => ⟨hg.1, _, hg.2.symm⟩))
              go_wp2
              go_quiet (((first | with_reducible refine right2_any.mono ?_ | with_reducible refine right13_any.mono ?_ | with_reducible refine right22_any.mono ?_); exact fun e w' hg => ⟨hg.1, _, hg.2.symm⟩))
              go_wp2
              simp only [add32_eq]
              refine wp_region_quiet_tail 26 (by kernel_rfl) (by kernel_rfl) ?_
              simp only [List.take_succ_cons, List.take_zero, List.drop_succ_cons, List.drop_zero]
              repeat (first
                | go_big_quiet_skip
                | (go_big_quiet_want; go_big_quiet_op; go_big_quiet_on))
              refine wpQuiet_nil ?_
              go_wp2
              go_roundw
              case rel =>
                refine ⟨i + 1, add32 (add32 (add32 (add32 (add32 vk (Sig1 ve)) (chs ve vf vg)) kk) x) (add32 (Sig0 va) (maj va vb' vc')), va, vb', vc', add32 vd (add32 (add32 (add32 (add32 vk (Sig1 ve)) (chs ve vf vg)) kk) x), ve, vf, vg, wr.heap.size, 0, 8, by omega, by go_num, rfl, ?_, by have := hbw4.size; have := hbel.size; omega, ?_, (belowN hbel _).alloc hbel.size _⟩
                rotate_left 1
                · refine sl_new _ .u32 _ _ 8 _ ?_ rfl (by omega) _ ?_
                  · rfl
                  · rfl
                show _ = _
                rw [rounds, hrd.out, ← HKK.out, ← HX.out]
                rfl
              case measure => simp [intOf]; omega
            · obtain rfl : i = 64 := by omega
              have hlV : [va, vb', vc', vd, ve, vf, vg, vk].length = 8 := rfl
              have hCO : Hid (compress Hj (chunk M j) = addAll Hj [va, vb', vc', vd, ve, vf, vg, vk]) := by
                show _ = _
                unfold compress
                rw [hrd.out]
              have hHl : Hj.length = 8 := by rw [HHJ.out]; rfl
              clear hrd
              generalize [va, vb', vc', vd, ve, vf, vg, vk] = V at *
              have hbw5 := hbw4.trans (hbel.mono hbw4.size)
              have hhb5 := hhbl4.keep hbel
              have hvs5 := hvs
              have HLV := mkHid hlV
              have HHL := mkHid hHl
              have hvlt := hvs.lt (by omega) _ rfl
              clear hlt hi hbel hvs hlV hHl
              obtain ⟨W5, rfl⟩ : ∃ x, x = wr := ⟨_, rfl⟩
              go_wp2
              go_loopw [17] (fun iv wr => ∃ i : Nat, i ≤ 8 ∧ iv = .int .i64 i ∧ Blk wr hb .u32 82 (upd Hj V i) ∧ W5.grownBy wr (some hb)) (fun iv _ => 8 - (intOf iv).toNat)
              case atStart => exact ⟨0, by omega, rfl, hhb5, grown_refl _ _⟩
              case round =>
                obtain ⟨i, hi, rfl, hhi, hgi⟩ := hrel
                have hul := upd_length HHL.out HLV.out i hi
                by_cases hlt : i < 8
                · have hcx := hhi.at i (by omega)
                  rw [upd_get HHL.out HLV.out i hlt] at hcx
                  have hvs6 := hvs5.grown hgi (fun p e => by cases e; show vb ≠ hb; omega)
                  have hcy := hvs6.cell i (by rw [HLV.out]; exact hlt)
                  obtain ⟨x, hx⟩ : ∃ x, x = Hj.getD i 0 := ⟨_, rfl⟩
                  obtain ⟨y, hy⟩ : ∃ y, y = V.getD i 0 := ⟨_, rfl⟩
                  have hy2 : V[i]'(by rw [HLV.out]; exact hlt) = y := by rw [hy]; simp [List.getD, show i < V.length by rw [HLV.out]; exact hlt]
                  rw [hy2] at hcy
                  rw [← hx] at hcx
                  have hfz := hhi.frozen i
                  have hst := upd_set HHL.out HLV.out i hlt
                  rw [← hx, ← hy] at hst
                  have HST := mkHid hst
                  have i8 : (i : Int) < 8 := by omega
                  clear hx hy hy2 hst hul hvs6
                  go_wp2
                  go_region
                  go_wp2
                  go_roundw
                  case rel =>
                    refine ⟨i + 1, by omega, by go_num, ?_, grown_drew (grown_set hgi i _)⟩
                    have := hhi.set i (add32 x y)
                    rw [HST.out] at this
                    exact this
                  case measure => simp [intOf]; omega
                · obtain rfl : i = 8 := by omega
                  have he : upd Hj V 8 = taken H M (j + 1) := by rw [upd_end HHL.out HLV.out, ← hCO.out, HJ.out]; rfl
                  rw [he] at hhi
                  have hslE := (hsl.keep hbw5).grown hgi hne
                  have hkbE := (hkb.keep hbw5).grown hgi (by omega)
                  have hgE := grown_trans hg (grown_trans (below_grown hbw5 _) hgi)
                  have hdr : 64 * (j + 1) = 64 * j + 64 := by omega
                  have HDR := mkHid hdr
                  clear hlt hi hul he hdr hsl hkb hg hgi
                  by_cases hc : c = 64
                  · subst hc
                    obtain rfl : m = 64 := by omega
                    clear hmc
                    go_wp2
                    go_roundw
                    case rel =>
                      refine ⟨j + 1, 0, 0, _, by have := HJM.out; show _ = _; omega, rfl, ?_, hne, hhi, hkbE, hgE⟩
                      have : M.drop (64 * (j + 1)) = [] := List.drop_eq_nil_of_le (by rw [hpl.out]; have := HJM.out; omega)
                      rw [this]
                      exact Sl.none_at _ _ _ _
                    case measure => simp
                  · have h64i : (64 : Int) ≤ (m : Int) := by omega
                    have h64c : (64 : Int) ≤ (c : Int) := by omega
                    go_wp2
                    go_roundw
                    case rel =>
                      refine ⟨j + 1, m - 64, c - 64, _, by have := HJM.out; show _ = _; omega, rfl, ?_, ?_, hhi, hkbE, hgE⟩
                      · have := hslE.dropped 64 h64
                        rw [List.drop_drop] at this
                        rw [HDR.out]
                        exact this
                      · intro p e
                        have := hne _ rfl
                        cases e
                        exact this
                    case measure => simp; omega
    · obtain rfl : m = 0 := by omega
      have hs8 := hhb.sl 8 (taken_len hH j) (by omega)
      have hW := mkHid (words_any hs8 (by omega) (taken_dg hHd j))
      have hj : L / 64 = j := by have := HJM.out; omega
      have hz2 := hg.size
      have hHM : wordsS (taken H (b ++ padS (n % 64) n) ((b ++ padS (n % 64) n).length / 64)) = wordsS (taken H M j) := by rw [HM.out, hpl.out, hj]
      have HHM := mkHid hHM
      clear hHM hj hs8
      go_wp2_with (go_at_call 84; (with_reducible refine hW.out.mono ?_); rintro e w9 ⟨a9, c9, rfl, ho9, hb9⟩)
      go_ret
      exact ⟨a9, c9, rfl, by rw [HHM.out]; exact ho9.mono (by have := hb12.size; omega), grown_trans (below_grown hb12 _) (grown_trans hg (below_grown hb9 _))⟩

end Go.Proofs.YtaeamlldocbeeaaDoor
