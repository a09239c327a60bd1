/- hashes: of, HMAC. -/
import Derived.Test.YtaeamlldocbeeaaDoorHashI
namespace Go.Proofs.YtaeamlldocbeeaaDoor
open Go.RowKit Go.Shelf Num

/-- a slice of slices that reads as parts -/
structure Pts (w : World) (a : Option Addr) (n : Nat) (pss : List (List Nat)) : Prop where
  len : pss.length = n
  big : n ≤ 9223372036854775807
  rd : ∀ i, i < n → ∃ b o pa pn pc, a = some ⟨b, o, none⟩ ∧ w.cell? ⟨b, o + i, none⟩ = some (.slice pa pn pc) ∧ Sl .u8 w pa pn pc (pss.getD i [])

theorem Pts.keep {w w' : World} {a : Option Addr} {n : Nat} {pss : List (List Nat)} (h : Pts w a n pss) (hb : Below w.heap.size w w') : Pts w' a n pss := by
  refine ⟨h.len, h.big, fun i hi => ?_⟩
  obtain ⟨b, o, pa, pn, pc, e, hc, hs⟩ := h.rd i hi
  exact ⟨b, o, pa, pn, pc, e, (hb.cell (cell_lt hc)).trans hc, hs.keep hb⟩

/-- two hashes of the call's own -/
structure Two (w wc : World) (I O : List Nat) (pi po : Nat) (ai ao : Option Addr) (ni ci no co : Nat) : Prop where
  hi : HA wc pi I ai ni ci
  ho : HA wc po O ao no co
  bi : w.heap.size ≤ pi
  bo : w.heap.size ≤ po
  ne : pi ≠ po
  fi : ∀ p, ai = some p → w.heap.size ≤ p.block
  fo : ∀ p, ao = some p → w.heap.size ≤ p.block
  dj : ∀ p q, ai = some p → ao = some q → p.block ≠ q.block
  bel : Below w.heap.size w wc

theorem HA.fresh {w : World} {hb n c : Nat} {all : List Nat} {a : Option Addr} (h : HA w hb all a n c) : ∀ p, a = some p → p.block ≠ hb :=
  h.own.ne_row h.row (by decide)

theorem Own.lt {k : IntKind} {T : TypeId} {B : Nat} {w : World} {a : Option Addr} {n c : Nat} {xs : List Nat} (h : Own k T B w a n c xs) : ∀ p, a = some p → p.block < w.heap.size := by
  intro p e
  rcases h.row with ⟨e', _⟩ | ⟨b', ys, e', _, _, _, hk⟩
  · rw [e'] at e; cases e
  · rw [e'] at e; cases e; exact Row.lt hk

theorem HA.ne_other {w : World} {hb hb' n c n' c' : Nat} {all all' : List Nat} {a a' : Option Addr} (h : HA w hb all a n c) (h' : HA w hb' all' a' n' c') : ∀ p, a = some p → p.block ≠ hb' :=
  h.own.ne_row h'.row (by decide)

theorem getD_blk {a : Option Addr} {hb x : Nat} (h1 : x ≠ hb) (h2 : ∀ p, a = some p → x ≠ p.block) : x ≠ (a.map (·.block)).getD hb := by
  cases a with
  | none => exact h1
  | some p => exact h2 p rfl

theorem getD_le {a : Option Addr} {hb x : Nat} (h1 : x ≤ hb) (h2 : ∀ p, a = some p → x ≤ p.block) : x ≤ (a.map (·.block)).getD hb := by
  cases a with
  | none => exact h1
  | some p => exact h2 p rfl

theorem Two.keep {w wc w' : World} {I O : List Nat} {pi po : Nat} {ai ao : Option Addr} {ni ci no co : Nat} (h : Two w wc I O pi po ai ao ni ci no co) (hb : Below wc.heap.size wc w') : Two w w' I O pi po ai ao ni ci no co :=
  ⟨h.hi.keep hb, h.ho.keep hb, h.bi, h.bo, h.ne, h.fi, h.fo, h.dj, h.bel.trans (hb.mono h.bel.size)⟩

theorem Two.mk' {w w1 w2 wc : World} {I O : List Nat} {pi po : Nat} {ai ao : Option Addr} {ni ci no co : Nat} (hb1 : Below w.heap.size w w1) (hi : HA w2 pi I ai ni ci) (bi : w1.heap.size ≤ pi) (fi : ∀ p, ai = some p → w1.heap.size ≤ p.block) (hb2 : Below w1.heap.size w1 w2)
    (ho : HA wc po O ao no co) (bo : w2.heap.size ≤ po) (fo : ∀ p, ao = some p → w2.heap.size ≤ p.block) (hb3 : Below w2.heap.size w2 wc) : Two w wc I O pi po ai ao ni ci no co := by
  have z1 := hb1.size
  have z2 := hb2.size
  have hl := Row.lt hi.row
  refine ⟨hi.keep hb3, ho, by omega, by omega, by omega, fun p e => by have := fi p e; omega, fun p e => by have := fo p e; omega, fun p q e e' => ?_, (hb1.trans (hb2.mono z1)).trans (hb3.mono (by omega))⟩
  have h1 := hi.own.lt p e
  have h2 := fo q e'
  omega

theorem Two.swap {w wc : World} {I O : List Nat} {pi po : Nat} {ai ao : Option Addr} {ni ci no co : Nat} (h : Two w wc I O pi po ai ao ni ci no co) : Two w wc O I po pi ao ai no co ni ci :=
  ⟨h.ho, h.hi, h.bo, h.bi, h.ne.symm, h.fo, h.fi, fun p q e e' => (h.dj q p e' e).symm, h.bel⟩

theorem Two.wrote {w wc w' : World} {I O all : List Nat} {pi po : Nat} {ai ao a' : Option Addr} {ni ci no co n' c' : Nat} (h : Two w wc I O pi po ai ao ni ci no co) (h1 : HA w' pi all a' n' c') (h2 : ∀ p, a' = some p → wc.heap.size ≤ p.block) (h3 : Only2 wc w' pi ((ai.map (·.block)).getD pi)) :
    Two w w' all O pi po a' ao n' c' no co := by
  have hz := h.bel.size
  refine ⟨h1, h.ho.only2 h3 h.ne.symm (getD_blk h.ne.symm fun p e => (h.hi.ne_other h.ho p e).symm) (fun p e => ⟨h.ho.ne_other h.hi p e, getD_blk (h.ho.ne_other h.hi p e) fun q e' => (h.dj q p e' e).symm⟩), h.bi, h.bo, h.ne, fun p e => by have := h2 p e; omega, h.fo, fun p q e e' => ?_, ?_⟩
  · have h4 := h2 p e
    have h5 := h.ho.own.lt q e'
    omega
  · exact h.bel.trans (h3.below _ h.bi (getD_le h.bi h.fi) hz)

/-- 32 bytes of one's own are the result -/
def Gives32 (w : World) (xs : List Nat) (e : Ending) (w' : World) : Prop :=
  ∃ a' c', e = .returned (.slice a' 32 c') ∧ Own .u8 5 w.heap.size w' a' 32 c' xs ∧ Below w.heap.size w w'

theorem flat_snoc (pss : List (List Nat)) (i : Nat) (hi : i < pss.length) : (pss.take i).flatten ++ pss.getD i [] = (pss.take (i + 1)).flatten := by
  rw [List.take_succ_eq_append_getElem hi, List.flatten_append]
  simp [List.getD, hi]

theorem flat_le (pss : List (List Nat)) (i : Nat) : ((pss.take i).flatten).length ≤ pss.flatten.length := by
  have h := congrArg List.flatten (List.take_append_drop i pss)
  rw [List.flatten_append] at h
  have := congrArg List.length h
  rw [List.length_append] at this
  omega

set_option maxRecDepth 100000 in
set_option maxHeartbeats 4000000 in
theorem kof_any {p1 p2 n1 c1 n2 c2 np cp : Nat} {a1 a2 ap : Option Addr} {I O : List Nat} {pss : List (List Nat)} {w : World} (h1 : HA w p1 I a1 n1 c1) (h2 : HA w p2 O a2 n2 c2) (hp : Pts w ap np pss) (hd : ∀ ps ∈ pss, Dg 256 ps) (hk : KTab w)
    (hI : I.length + pss.flatten.length < 549755813888) (hO : O.length < 549755813888) :
    Calls Tryd.prog 55 #[.agg #[.pointer (some ⟨p1, 0, none⟩), .pointer (some ⟨p2, 0, none⟩)], .slice ap np cp] w (Gives32 w (sha (O ++ sha (I ++ pss.flatten)))) := by
  have HL := mkHid hp.len
  have hnp := hp.big
  go_enter Tryd.func55, Tryd.ntmps55
  go_upto_region 1 with (fail)
  obtain ⟨W1, xb, hW1, hxb, r1, l1, z1⟩ := newObj w 90 #[Value.pointer (some { block := p1, off := 0 }), Value.pointer (some { block := p2, off := 0 })]
  rw [← hW1, ← hxb]
  clear hW1 hxb z1
  have hbd : Below w.heap.size w W1.drew := l1.drew
  have c0 : W1.drew.cell? ⟨xb, 0, none⟩ = some (.pointer (some ⟨p1, 0, none⟩)) := r1.cell 0
  have c1 : W1.drew.cell? ⟨xb, 1, none⟩ = some (.pointer (some ⟨p2, 0, none⟩)) := r1.cell 1
  go_cut [5, 6] from 9 to 14 (fun q r wc => ∃ pi po ai ao ni ci no co, q = .pointer (some ⟨pi, 0, none⟩) ∧ r = .pointer (some ⟨po, 0, none⟩) ∧ Two w wc I O pi po ai ao ni ci no co)
  case first =>
    have hcp1 := fun W (hW : Below w.heap.size w W) => copy_abs (h1.keep hW) (hk.keep hW)
    have hcp2 := fun W (hW : Below w.heap.size w W) => copy_abs (h2.keep hW) (hk.keep hW)
    have HC1 := mkHid hcp1
    have HC2 := mkHid hcp2
    clear hcp1 hcp2
    refine wp_region_noPanic ?_
    go_region_with (first
      | (go_at_call 69; (with_reducible refine (HC1.out _ hbd).mono ?_); rintro e wq ⟨pi, ai, ni, ci, rfl, hsi, bi, fi, li⟩; have cq0 := (li.cell (cell_lt c0)).trans c0; have cq1 := (li.cell (cell_lt c1)).trans c1; have hb' := hbd.trans (li.mono hbd.size))
      | (go_at_call 69; (with_reducible refine (HC2.out _ hb').mono ?_); rintro e wr ⟨po, ao, no, co, rfl, hso, bo, fo, lo⟩; have hT := Two.mk' hbd hsi bi fi li hso bo fo lo)
      | (go_at_call 69; (with_reducible refine (HC2.out _ hbd).mono ?_); rintro e wq ⟨po, ao, no, co, rfl, hso, bo, fo, lo⟩; have cq0 := (lo.cell (cell_lt c0)).trans c0; have cq1 := (lo.cell (cell_lt c1)).trans c1; have hb'' := hbd.trans (lo.mono hbd.size))
      | (go_at_call 69; (with_reducible refine (HC1.out _ hb'').mono ?_); rintro e wr ⟨pi, ai, ni, ci, rfl, hsi, bi, fi, li⟩; have hT := (Two.mk' hbd hso bo fo lo hsi bi fi li).swap))
    all_goals (
      refine NoPanic.normal ?_
      go_wp2
      go_meet
      case rel => exact ⟨_, _, _, _, _, _, _, _, rfl, rfl, hT⟩)
  case rest =>
    obtain ⟨pi, po, ai, ao, ni, ci, no, co, rfl, rfl, hT⟩ := hcut
    clear c0 c1 hbd r1 l1
    go_wp2
    go_loopw [17] (fun iv wr => ∃ (i : Nat) (ai : Option Addr) (ni ci : Nat), i ≤ np ∧ iv = .int .i64 i ∧ Two w wr (I ++ (pss.take i).flatten) O pi po ai ao ni ci no co) (fun iv _ => np - (intOf iv).toNat)
    case atStart => exact ⟨0, ai, ni, ci, by omega, rfl, by simpa using hT⟩
    case round =>
      clear hT
      obtain ⟨i, ai, ni, ci, hi, rfl, hT⟩ := hrel
      have hkr := hk.keep hT.bel
      by_cases hlt : i < np
      · obtain ⟨pb, po', pa, pn, pc, hap, hcell, hsl⟩ := (hp.keep hT.bel).rd i hlt
        subst hap
        have hil : i < pss.length := by rw [HL.out]; exact hlt
        have hdp : Dg 256 (pss.getD i []) := by rw [List.getD, List.getElem?_eq_getElem hil]; exact hd _ (List.getElem_mem hil)
        have hfl := flat_le pss (i + 1)
        have hsn := flat_snoc pss i hil
        have hlen : (I ++ (pss.take i).flatten).length + pn < 70368744177664 := by
          rw [← hsn, List.length_append, hsl.len] at hfl
          rw [List.length_append]
          omega
        have hW := mkHid (write_abs hT.hi hsl hdp hkr hlen)
        have HSN := mkHid hsn
        have i1 : (i : Int) < (np : Int) := by omega
        clear hsn hfl hlen hil hdp hsl
        go_wp2_with (go_at_call 68; (with_reducible refine hW.out.mono ?_); rintro e w8 ⟨⟨v8, rfl⟩, a8, n8, c8, hA8, hf8, ho8⟩)
        go_roundw
        case rel =>
          refine ⟨i + 1, a8, n8, c8, by omega, by go_num, ?_⟩
          rw [List.append_assoc, HSN.out] at hA8
          exact hT.wrote hA8 hf8 ho8
        case measure => simp [intOf]; omega
      · obtain rfl : i = np := by omega
        have e1 : pss.take i = pss := List.take_of_length_le (by rw [HL.out]; exact Nat.le_refl _)
        rw [e1] at hT
        have hS := mkHid (sum_abs_any hT.hi hkr (by rw [List.length_append]; omega))
        clear e1
        go_upto_region 8 with (first
          | (go_at_call 70; (with_reducible refine hS.out.mono ?_); rintro e w8 ⟨a8, c8, rfl, ho8, hb8⟩; have hT8 := (hT.keep hb8).swap; have hk8 := hkr.keep hb8; have hW := mkHid (write_abs hT8.hi ho8.sl (sha_dg _) hk8 (by omega)); clear hS)
          | (go_at_call 68; (with_reducible refine hW.out.mono ?_); rintro e w9 ⟨⟨v9, rfl⟩, a9, n9, c9, hA9, hf9, ho9⟩))
        have hT9 := hT8.wrote hA9 hf9 ho9
        have hk9 := hk.keep hT9.bel
        have hS9 := mkHid (sum_abs_any hT9.hi hk9 (by rw [List.length_append, sha_len]; omega))
        clear hW
        go_wp2_with (go_at_call 70; (with_reducible refine hS9.out.mono ?_); rintro e w10 ⟨a10, c10, rfl, ho10, hb10⟩)
        go_ret
        have hz := hT9.bel.size
        exact ⟨_, _, rfl, ho10.mono hz, hT9.bel.trans (hb10.mono hz)⟩

/-- HMAC over SHA-256 -/
def hmacS (ks msg : List Nat) : List Nat := sha (keyX 92 ks ++ sha (keyX 54 ks ++ msg))

set_option maxHeartbeats 1000000 in
theorem phmac_any {n c np cp : Nat} {a ap : Option Addr} {ks : List Nat} {pss : List (List Nat)} {w : World} (h : Sl .u8 w a n c ks) (hn : n ≤ 64) (hd : Dg 256 ks) (hp : Pts w ap np pss) (hpd : ∀ ps ∈ pss, Dg 256 ps) (hk : KTab w)
    (hI : pss.flatten.length < 274877906944) :
    Calls Tryd.prog 35 #[.int .i64 3, .slice a n c, .slice ap np cp] w (Gives32 w (hmacS ks pss.flatten)) := by
  have hkl : ks.length ≤ 64 := by rw [h.len]; exact hn
  have hK := mkHid (keyed_any h hd hn hk)
  go_enter Tryd.func35, Tryd.ntmps35
  go_upto_region 3 with (go_at_call 53; (with_reducible refine (hsize_any _).mono ?_); rintro e w' ⟨rfl, rfl⟩)
  go_wp2_with (first
    | (go_at_call 54; (with_reducible refine hK.out.mono ?_); rintro e w1 ⟨p1, p2, a1, n1, c1, a2, n2, c2, rfl, hA1, hA2, hb1⟩; have hO := mkHid (kof_any (cp := cp) hA1 hA2 (hp.keep hb1) hpd (hk.keep hb1) (by rw [keyX_len 54 hkl]; omega) (by rw [keyX_len 92 hkl]; omega)); clear hK)
    | (go_at_call 55; (with_reducible refine hO.out.mono ?_); rintro e w2 ⟨a', c', rfl, ho, hb2⟩))
  go_ret
  exact ⟨_, _, rfl, ho.mono hb1.size, hb1.trans (hb2.mono hb1.size)⟩

end Go.Proofs.YtaeamlldocbeeaaDoor
