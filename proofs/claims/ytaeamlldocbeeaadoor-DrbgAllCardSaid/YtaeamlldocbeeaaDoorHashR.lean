/- baileyref4: update, Reseed, New, Bytes. -/
import Derived.Test.YtaeamlldocbeeaaDoorHashQ
namespace Go.Proofs.YtaeamlldocbeeaaDoor
open Go.RowKit Go.Shelf Num

theorem rmac3 {T : TypeId} {db N kc vc dn dc : Nat} {ka va da : Option Addr} {K V data : List Nat} {w : World} (h : DrAt T w db K V N ka kc va vc) (hs : Sl .u8 w da dn dc data) (hd : Dg 256 data) (hn : dn ≤ 1073741824) (x : Nat) (hx : x < 256) (y : Int) (hy : (x : Int) = y) :
    Calls Tryd.prog 23 #[.slice ka 32 kc, .slice (some ⟨w.heap.size + 1, 0, none⟩) 3 3]
      ((w.alloc (Obj.cells #[.int .u8 y] 5)).alloc (Obj.cells #[.slice va 32 vc, .slice (some ⟨w.heap.size, 0, none⟩) 1 1, .slice da dn dc] 22)).drew (GivesS w (up1 x K V data)) := by
  subst hy
  have hb1 := below_alloc (Obj.cells #[.int .u8 (x : Int)] 5) (Nat.le_refl w.heap.size)
  have hb2 := (hb1.alloc hb1.size (Obj.cells #[.slice va 32 vc, .slice (some ⟨w.heap.size, 0, none⟩) 1 1, .slice da dn dc] 22)).drew
  refine (rh_any (h.ks.keep hb2) (by omega) h.kd ((pts3 h.vs hs x).keep (Below.refl _ _).drew) ?_ ?_).mono ?_
  · intro ps hps
    simp only [List.mem_cons, List.not_mem_nil, or_false] at hps
    rcases hps with rfl | rfl | rfl
    · exact h.vd
    · exact Dg.cons hx Dg.nil
    · exact hd
  · have := h.vs.len
    have := hs.len
    simp
    omega
  · rintro e w' ⟨a', c', rfl, ho, hb⟩
    exact ⟨a', c', rfl, ho.sl, hb2.trans (hb.mono hb2.size), fun p e => Nat.le_trans hb2.size (ho.fresh p e)⟩

theorem rmac1 {T : TypeId} {db N kc vc : Nat} {ka va : Option Addr} {K V : List Nat} {w : World} (h : DrAt T w db K V N ka kc va vc) :
    Calls Tryd.prog 23 #[.slice ka 32 kc, .slice (some ⟨w.heap.size, 0, none⟩) 1 1] (w.alloc (Obj.cells #[.slice va 32 vc] 22)).drew (GivesS w (up2 K V)) := by
  have hb1 := (below_alloc (Obj.cells #[.slice va 32 vc] 22) (Nat.le_refl w.heap.size)).drew
  refine (rh_any (h.ks.keep hb1) (by omega) h.kd ((pts1 h.vs).keep (Below.refl _ _).drew) ?_ ?_).mono ?_
  · intro ps hps
    simp only [List.mem_cons, List.not_mem_nil, or_false] at hps
    subst hps
    exact h.vd
  · have := h.vs.len
    simp
    omega
  · rintro e w' ⟨a', c', rfl, ho, hb⟩
    exact ⟨a', c', rfl, ho.sl, hb1.trans (hb.mono hb1.size), fun p e => Nat.le_trans hb1.size (ho.fresh p e)⟩

set_option maxRecDepth 100000 in
set_option maxHeartbeats 4000000 in
theorem rupd_any {db N dn dc : Nat} {da : Option Addr} {K V data : List Nat} {w : World} (h : Dr 45 w db K V N) (hs : Sl .u8 w da dn dc data) (hd : Dg 256 data) (hn : dn ≤ 1073741824) :
    Calls Tryd.prog 21 #[.pointer (some ⟨db, 0, none⟩), .slice da dn dc] w (GivesUp 45 w db (drUp K V data).1 (drUp K V data).2 N) := by
  obtain ⟨ka, kc, va, vc, h⟩ := h
  go_enter Tryd.func21, Tryd.ntmps21
  go_upto_region 0 with (fail)
  have cK := h.cK
  have cV := h.cV
  have hb1 := below_alloc (Obj.cells #[.int .u8 0] 5) (Nat.le_refl w.heap.size)
  have hb2 := (hb1.alloc hb1.size (Obj.cells #[.slice va 32 vc, .slice (some ⟨w.heap.size, 0, none⟩) 1 1, .slice da dn dc] 22)).drew
  have cK1 := (h.keep hb1.drew).cK
  have cV1 := (h.keep hb1.drew).cV
  have cK2 := (h.keep hb2).cK
  have hM := mkHid (rmac3 h hs hd hn 0 (by omega) 0 rfl)
  go_cut [] from 4 to 18 (fun wc => ∃ a c, DrAt 45 wc db (up1 0 K V data) V N a c va vc ∧ w.grownBy wc (some db))
  case first =>
    refine wp_region_noPanic ?_
    go_region_with (go_at_call 23; (with_reducible refine hM.out.mono ?_); rintro e w1 ⟨a1, c1, rfl, ho1, hq1, _⟩; have h1 := h.keep hq1; have cKq := h1.cK; have cVq := h1.cV; have f0 := h1.row.frozen 0; have f1 := h1.row.frozen 1)
    all_goals (
      refine NoPanic.normal ?_
      go_wp2
      go_meet
      case rel => exact ⟨_, _, h1.setK ho1 (up1_dg 0 K V data), grown_set (below_grown hq1 _) 0 _⟩)
  case rest =>
    obtain ⟨ka1, kc1, hA, hg1⟩ := hcut
    have hs1 := h.sl hs hg1
    clear cK cV hb1 hb2 cK1 cV1 cK2 hM h
    obtain ⟨wA, rfl⟩ : ∃ x, x = wc := ⟨_, rfl⟩
    go_upto_region 1 with (fail)
    have cK := hA.cK
    have cV := hA.cV
    have hb1 := (below_alloc (Obj.cells #[.slice va 32 vc] 22) (Nat.le_refl wA.heap.size)).drew
    have cK1 := (hA.keep hb1).cK
    have cV1 := (hA.keep hb1).cV
    have hM := mkHid (rmac1 hA)
    go_cut [] from 19 to 31 (fun wc => ∃ a c, DrAt 45 wc db (up1 0 K V data) (up2 (up1 0 K V data) V) N ka1 kc1 a c ∧ wA.grownBy wc (some db))
    case first =>
      refine wp_region_noPanic ?_
      go_region_with (go_at_call 23; (with_reducible refine hM.out.mono ?_); rintro e w1 ⟨a1, c1, rfl, ho1, hq1, _⟩; have h1 := hA.keep hq1; have cKq := h1.cK; have cVq := h1.cV; have f0 := h1.row.frozen 0; have f1 := h1.row.frozen 1)
      all_goals (
        refine NoPanic.normal ?_
        go_wp2
        go_meet
        case rel => exact ⟨_, _, h1.setV ho1 (up2_dg _ _), grown_set (below_grown hq1 _) 1 _⟩)
    case rest =>
      obtain ⟨va2, vc2, hB, hg2⟩ := hcut
      have hs2 := hA.sl hs1 hg2
      have hg12 := grown_trans hg1 hg2
      clear cK cV hb1 cK1 cV1 hM hA
      obtain ⟨wB, rfl⟩ : ∃ x, x = wc := ⟨_, rfl⟩
      by_cases h0 : dn = 0
      · subst h0
        have e0 : data = [] := List.eq_nil_of_length_eq_zero hs.len
        have e1 : drUp K V data = (up1 0 K V data, up2 (up1 0 K V data) V) := if_pos e0
        have E1 := mkHid e1
        clear e0 e1
        go_wp2
        go_end0
        exact ⟨⟨_, rfl⟩, by rw [E1.out]; exact ⟨_, _, _, _, hB⟩, hg12⟩
      · have e0 : ¬ data = [] := by intro e; subst e; exact h0 hs.len.symm
        have e1 : drUp K V data = _ := if_neg e0
        have E1 := mkHid e1
        have hpos : 0 < dn := by omega
        clear e0 e1 h0
        go_upto_region 3 with (fail)
        have cK := hB.cK
        have cV := hB.cV
        have hb1 := below_alloc (Obj.cells #[.int .u8 1] 5) (Nat.le_refl wB.heap.size)
        have hb2 := (hb1.alloc hb1.size (Obj.cells #[.slice va2 32 vc2, .slice (some ⟨wB.heap.size, 0, none⟩) 1 1, .slice da dn dc] 22)).drew
        have cK1 := (hB.keep hb1.drew).cK
        have cV1 := (hB.keep hb1.drew).cV
        have cK2 := (hB.keep hb2).cK
        have hM := mkHid (rmac3 hB hs2 hd hn 1 (by omega) 1 rfl)
        go_cut [] from 35 to 49 (fun wc => ∃ a c, DrAt 45 wc db (up1 1 (up1 0 K V data) (up2 (up1 0 K V data) V) data) (up2 (up1 0 K V data) V) N a c va2 vc2 ∧ wB.grownBy wc (some db))
        case first =>
          refine wp_region_noPanic ?_
          go_region_with (go_at_call 23; (with_reducible refine hM.out.mono ?_); rintro e w1 ⟨a1, c1, rfl, ho1, hq1, _⟩; have h1 := hB.keep hq1; have cKq := h1.cK; have cVq := h1.cV; have f0 := h1.row.frozen 0; have f1 := h1.row.frozen 1)
          all_goals (
            refine NoPanic.normal ?_
            go_wp2
            go_meet
            case rel => exact ⟨_, _, h1.setK ho1 (up1_dg _ _ _ _), grown_set (below_grown hq1 _) 0 _⟩)
        case rest =>
          obtain ⟨ka3, kc3, hC, hg3⟩ := hcut
          have hg123 := grown_trans hg12 hg3
          clear cK cV hb1 hb2 cK1 cV1 cK2 hM hB
          obtain ⟨wC, rfl⟩ : ∃ x, x = wc := ⟨_, rfl⟩
          go_upto_region 4 with (fail)
          have cK := hC.cK
          have cV := hC.cV
          have hb1 := (below_alloc (Obj.cells #[.slice va2 32 vc2] 22) (Nat.le_refl wC.heap.size)).drew
          have cK1 := (hC.keep hb1).cK
          have cV1 := (hC.keep hb1).cV
          have hM := mkHid (rmac1 hC)
          go_region_with (go_at_call 23; (with_reducible refine hM.out.mono ?_); rintro e w1 ⟨a1, c1, rfl, ho1, hq1, _⟩; have h1 := hC.keep hq1; have cVq := h1.cV; have f1 := h1.row.frozen 1)
          all_goals (
            go_wp2
            go_end0
            exact ⟨⟨_, rfl⟩, by rw [E1.out]; exact ⟨_, _, _, _, h1.setV ho1 (up2_dg _ _)⟩, grown_trans hg123 (grown_set (below_grown hq1 _) 1 _)⟩)

end Go.Proofs.YtaeamlldocbeeaaDoor
