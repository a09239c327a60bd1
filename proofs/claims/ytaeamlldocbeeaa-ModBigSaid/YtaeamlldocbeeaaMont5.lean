/- zmont: One, To, From. -/
import Derived.Test.YtaeamlldocbeeaaMont4
import Derived.Test.YtaeamlldocbeeaaEach2
namespace Go.Proofs.Ytaeamlldocbeeaa
open Go.RowKit Num

theorem mone_any {p n m : Nat} {w : World} (h : Mo w p n m) :
    Calls Try.prog 92 #[.pointer (some ⟨p, 0, none⟩)] w (GivesV w n (18446744073709551616 ^ n % m)) := by
  have hn := h.hn
  obtain ⟨am, cm, inv, b1, d1, b2, d2, hr, hm, hinv, hq, h5, _⟩ := h.ex
  obtain ⟨xs, hs, hd, hv⟩ := h5.ex
  have hc2 := hr.cell 2
  simp only [List.getElem?_cons_zero, List.getElem?_cons_succ] at hc2
  have HV := mkHid hv
  have HQ := mkHid hq
  clear hv hq h h5
  go_enter Try.func92, Try.ntmps92
  go_wp2_with (first
    | (at_builtin; refine wpList_app rfl (.const (.slice none 0 0)) (.tmp 6) 22 rfl 54 .u64 8 under_u64s info_u64 w.heap.size none 0 0 [] rfl (Own.nilOwn _ _ _ _) _ _ _ _ rfl hs (by omega) (by omega) (Nat.le_refl _) ?_; intro a3 c3 w3 ho hb))
  rw [Nat.zero_add] at ho
  go_ret
  exact ⟨a3, c3, rfl, ⟨xs, by simpa using ho.sl, hd, HV.out⟩, hb⟩

theorem mto_any {p n m A : Nat} {a1 : Option Addr} {n1 c1 : Nat} {w : World} (h : Mo w p n m) (h1 : Sl .u64 w a1 n1 c1 (dig 18446744073709551616 A)) (hA : A < m) :
    Calls Try.prog 83 #[.pointer (some ⟨p, 0, none⟩), .slice a1 n1 c1] w (GivesV w n (A * 18446744073709551616 ^ n % m)) := by
  have hbd : Below w.heap.size w w.drew := (Below.refl _ _).drew
  have hle : n1 ≤ n := by
    rw [← h1.len]
    obtain ⟨am, cm, inv, b1, d1, b2, d2, hr, hm, _⟩ := h.ex
    rw [← hm.len]
    exact dig_length_mono _ (by omega) (by omega)
  have hm0 : 0 < m := by omega
  have hf := fill_any (h.mo0.keep hbd) (h1.keep hbd) (dgW A) hle
  rw [valW] at hf
  have HF := mkHid hf
  have hMd := h.keep hbd
  obtain ⟨am, cm, inv, b1, d1, b2, d2, hr, hm, hinv, hq, h5, h6⟩ := hMd.ex
  have hc3 := hr.cell 3
  simp only [List.getElem?_cons_zero, List.getElem?_cons_succ] at hc3
  have hcop := mkHid h.cop
  clear hf hq h
  go_enter Try.func83, Try.ntmps83
  go_upto_region 1 with (fail)
  go_region_with (first
    | (go_at_call 91; (with_reducible refine HF.out.mono ?_); rintro e w1 ⟨a3, c3, rfl, hv3, hb1⟩; have hc3' := (hr.keep hb1).cell 3; simp only [List.getElem?_cons_zero, List.getElem?_cons_succ] at hc3'; have hmm := mkHid (mont_any (hMd.keep hb1) hv3 (h6.keep hb1) (Nat.mod_lt _ hm0)))
    | (go_at_call 85; (with_reducible refine hmm.out.mono ?_); rintro e w2 ⟨r, hr1, hr2, a4, c4, rfl, hv4, hb2⟩))
  all_goals (
    go_wp2
    go_ret
    refine ⟨a4, c4, rfl, ?_, hbd.trans ((hb1.trans (hb2.mono hb1.size)).mono hbd.size)⟩
    rw [← mont_to hcop.out hr1 hr2]
    exact hv4)

theorem mfrom_any {p n m P k u : Nat} {a1 : Option Addr} {c1 : Nat} {w : World} (h : Mo w p n m) (h1 : Vc w a1 n c1 u) (hu : u = P * 18446744073709551616 ^ n % m) (hk : Lt2 k m) (hk2 : k ≤ 1000000) :
    Calls Try.prog 84 #[.pointer (some ⟨p, 0, none⟩), .slice a1 n c1] w (GivesC w k (P % m)) := by
  have hn := h.hn
  have hpos := h.pos
  have hgt := h.gt
  have hcop := mkHid h.cop
  have HU := mkHid hu
  obtain ⟨am, cm, inv, b1, d1, b2, d2, hr, hm, hinv, hq, h5, h6⟩ := h.ex
  have hc0 := hr.cell 0
  simp only [List.getElem?_cons_zero] at hc0
  clear hq hu
  have j0 : (0 : Int) < (n : Int) := by omega
  go_enter Try.func84, Try.ntmps84
  go_upto_region 2 with (first
    | (at_make; refine wpList_mk rfl _ _ _ rfl 54 .u64 8 under_u64s info_u64 n rfl rfl (by omega) (by omega) (by omega) (by omega) ?_; intro b w2 hB hblk hbel))
  obtain ⟨z0, hcz, hfz, _⟩ := hblk.get 0 (by simpa using hpos)
  have hs := hblk.set 0 1
  have hbs := hbel.setCell (p := ⟨b, 0, none⟩) hB (.int .u64 1)
  go_upto_region 3 with (fail)
  have hval : Hid (val 18446744073709551616 ((List.replicate n 0).set 0 1) = 1) := by
    show _ = _
    cases n with
    | zero => omega
    | succ n => simp [List.replicate_succ, val, val_replicate]
  have hvec : Vc (w2.setCell ⟨b, 0, none⟩ (.int .u64 1)) (some ⟨b, 0, none⟩) n n 1 :=
    ⟨_, hs.sl n (by simp) (by omega), (Dg.replicate (by omega) _).set _ _ (by omega), hval.out⟩
  have hmm := mkHid (mont_any (h.keep hbs) (h1.keep hbs) hvec hgt)
  go_wp2_with (first
    | (go_at_call 85; (with_reducible refine hmm.out.mono ?_); rintro e w3 ⟨r, hr1, hr2, a4, c4, rfl, hv4, hb2⟩; obtain ⟨zs, hz1, hz2, hz3⟩ := hv4.ex; have HZ := mkHid hz3; clear hz3)
    | (go_at_call 37; (with_reducible refine (norm_any hz1 hz2 (by omega)).mono ?_); rintro e w4 ⟨a5, n5, c5, rfl, ho, hb3⟩))
  go_ret
  rw [HU.out] at hr2
  have hrp := mont_from hcop.out hr1 hr2
  rw [HZ.out, hrp] at ho
  exact ⟨a5, n5, c5, rfl, ⟨ho.sl, hk.le (Nat.le_of_lt (Nat.mod_lt _ (by omega))), hk2⟩, hbs.trans ((hb2.trans (hb3.mono hb2.size)).mono hbs.size)⟩

end Go.Proofs.Ytaeamlldocbeeaa
