/- drbg: mac, update, Left, Reseed. -/
import Derived.Test.YtaeamlldocbeeaaDoorHashK
namespace Go.Proofs.YtaeamlldocbeeaaDoor
open Go.RowKit Go.Shelf Num

/-- a generator's state in memory -/
structure DrAt (T : TypeId) (w : World) (db : Nat) (K V : List Nat) (N : Nat) (ka : Option Addr) (kc : Nat) (va : Option Addr) (vc : Nat) : Prop where
  row : Row w db T [.slice ka 32 kc, .slice va 32 vc, .int .i64 (N : Int)]
  ks : Sl .u8 w ka 32 kc K
  vs : Sl .u8 w va 32 vc V
  kd : Dg 256 K
  vd : Dg 256 V

def Dr (T : TypeId) (w : World) (db : Nat) (K V : List Nat) (N : Nat) : Prop := ∃ ka kc va vc, DrAt T w db K V N ka kc va vc

theorem DrAt.keep {T : TypeId} {w w' : World} {db N kc vc : Nat} {K V : List Nat} {ka va : Option Addr} (h : DrAt T w db K V N ka kc va vc) (hb : Below w.heap.size w w') : DrAt T w' db K V N ka kc va vc :=
  ⟨h.row.keep hb, h.ks.keep hb, h.vs.keep hb, h.kd, h.vd⟩

theorem Dr.keep {T : TypeId} {w w' : World} {db N : Nat} {K V : List Nat} (h : Dr T w db K V N) (hb : Below w.heap.size w w') : Dr T w' db K V N := by
  obtain ⟨ka, kc, va, vc, h⟩ := h
  exact ⟨ka, kc, va, vc, h.keep hb⟩

theorem DrAt.sl {T : TypeId} {w w' : World} {db N kc vc n c : Nat} {K V xs : List Nat} {ka va a : Option Addr} (h : DrAt T w db K V N ka kc va vc) (hs : Sl .u8 w a n c xs) (hg : w.grownBy w' (some db)) : Sl .u8 w' a n c xs :=
  hs.grownRow h.row (by simp) hg

theorem DrAt.setK {T : TypeId} {w : World} {db N kc vc c : Nat} {K V X : List Nat} {ka va a : Option Addr} (h : DrAt T w db K V N ka kc va vc) (hs : Sl .u8 w a 32 c X) (hX : Dg 256 X) : DrAt T (w.setCell ⟨db, 0, none⟩ (.slice a 32 c)) db X V N a c va vc :=
  have hg := grown_set (grown_refl w (some db)) 0 (.slice a 32 c)
  ⟨h.row.set 0 _, h.sl hs hg, h.sl h.vs hg, hX, h.vd⟩

theorem DrAt.setV {T : TypeId} {w : World} {db N kc vc c : Nat} {K V X : List Nat} {ka va a : Option Addr} (h : DrAt T w db K V N ka kc va vc) (hs : Sl .u8 w a 32 c X) (hX : Dg 256 X) : DrAt T (w.setCell ⟨db, 1, none⟩ (.slice a 32 c)) db K X N ka kc a c :=
  have hg := grown_set (grown_refl w (some db)) 1 (.slice a 32 c)
  ⟨h.row.set 1 _, h.sl h.ks hg, h.sl hs hg, h.kd, hX⟩

theorem DrAt.setN {T : TypeId} {w : World} {db N kc vc : Nat} {K V : List Nat} {ka va : Option Addr} (h : DrAt T w db K V N ka kc va vc) (M : Nat) : DrAt T (w.setCell ⟨db, 2, none⟩ (.int .i64 (M : Int))) db K V M ka kc va vc :=
  have hg := grown_set (grown_refl w (some db)) 2 (.int .i64 (M : Int))
  ⟨h.row.set 2 _, h.sl h.ks hg, h.sl h.vs hg, h.kd, h.vd⟩

theorem DrAt.cK {T : TypeId} {w : World} {db N kc vc : Nat} {K V : List Nat} {ka va : Option Addr} (h : DrAt T w db K V N ka kc va vc) : w.cell? ⟨db, 0, none⟩ = some (.slice ka 32 kc) := h.row.cell 0
theorem DrAt.cV {T : TypeId} {w : World} {db N kc vc : Nat} {K V : List Nat} {ka va : Option Addr} (h : DrAt T w db K V N ka kc va vc) : w.cell? ⟨db, 1, none⟩ = some (.slice va 32 vc) := h.row.cell 1
theorem DrAt.cN {T : TypeId} {w : World} {db N kc vc : Nat} {K V : List Nat} {ka va : Option Addr} (h : DrAt T w db K V N ka kc va vc) : w.cell? ⟨db, 2, none⟩ = some (.int .i64 (N : Int)) := h.row.cell 2

theorem DrAt.kt {T : TypeId} {w w' : World} {db N kc vc : Nat} {K V : List Nat} {ka va : Option Addr} (h : DrAt T w db K V N ka kc va vc) (hk : KTab w) (hg : w.grownBy w' (some db)) : KTab w' :=
  hk.grownR hg (by have := hk.ne h.row (by simp); simpa using Ne.symm this)

theorem hmacS_dg (ks msg : List Nat) : Dg 256 (hmacS ks msg) := sha_dg _
theorem hmacS_len (ks msg : List Nat) : (hmacS ks msg).length = 32 := sha_len _

/-- the parts' memory -/
theorem pts3 {w : World} {va da : Option Addr} {vn vc dn dc : Nat} {V data : List Nat} (hv : Sl .u8 w va vn vc V) (hd : Sl .u8 w da dn dc data) (x : Nat) :
    Pts ((w.alloc (Obj.cells #[.int .u8 (x : Int)] 5)).alloc (Obj.cells #[.slice va vn vc, .slice (some ⟨w.heap.size, 0, none⟩) 1 1, .slice da dn dc] 22)) (some ⟨w.heap.size + 1, 0, none⟩) 3 [V, [x], data] := by
  have hb1 := below_alloc (Obj.cells #[.int .u8 (x : Int)] 5) (Nat.le_refl w.heap.size)
  have hb2 := hb1.alloc hb1.size (Obj.cells #[.slice va vn vc, .slice (some ⟨w.heap.size, 0, none⟩) 1 1, .slice da dn dc] 22)
  have hx := ((Blk.new1 w .u8 5 x).alloc (Obj.cells #[.slice va vn vc, .slice (some ⟨w.heap.size, 0, none⟩) 1 1, .slice da dn dc] 22)).sl 1 rfl (by omega)
  have hr : Row ((w.alloc (Obj.cells #[.int .u8 (x : Int)] 5)).alloc (Obj.cells #[.slice va vn vc, .slice (some ⟨w.heap.size, 0, none⟩) 1 1, .slice da dn dc] 22)) (w.heap.size + 1) 22 [.slice va vn vc, .slice (some ⟨w.heap.size, 0, none⟩) 1 1, .slice da dn dc] := by
    have := heap_alloc_new (w.alloc (Obj.cells #[.int .u8 (x : Int)] 5)) (Obj.cells #[.slice va vn vc, .slice (some ⟨w.heap.size, 0, none⟩) 1 1, .slice da dn dc] 22)
    rw [World.size_alloc] at this
    exact this
  refine ⟨rfl, by omega, fun i hi => ?_⟩
  match i, hi with
  | 0, _ => exact ⟨_, _, _, _, _, rfl, hr.cell 0, hv.keep hb2⟩
  | 1, _ => exact ⟨_, _, _, _, _, rfl, hr.cell 1, hx⟩
  | 2, _ => exact ⟨_, _, _, _, _, rfl, hr.cell 2, hd.keep hb2⟩

theorem pts1 {w : World} {va : Option Addr} {vn vc : Nat} {V : List Nat} (hv : Sl .u8 w va vn vc V) :
    Pts (w.alloc (Obj.cells #[.slice va vn vc] 22)) (some ⟨w.heap.size, 0, none⟩) 1 [V] := by
  have hb1 := below_alloc (Obj.cells #[.slice va vn vc] 22) (Nat.le_refl w.heap.size)
  have hr : Row (w.alloc (Obj.cells #[.slice va vn vc] 22)) w.heap.size 22 [.slice va vn vc] := heap_alloc_new _ _
  refine ⟨rfl, by omega, fun i hi => ?_⟩
  match i, hi with
  | 0, _ => exact ⟨_, _, _, _, _, rfl, hr.cell 0, hv.keep hb1⟩

/-- 32 bytes are the result -/
def GivesS (w : World) (xs : List Nat) (e : Ending) (w' : World) : Prop :=
  ∃ a' c', e = .returned (.slice a' 32 c') ∧ Sl .u8 w' a' 32 c' xs ∧ Below w.heap.size w w' ∧ (∀ p, a' = some p → w.heap.size ≤ p.block)

theorem Own.fresh {k : IntKind} {T : TypeId} {B : Nat} {w : World} {a : Option Addr} {n c : Nat} {xs : List Nat} (h : Own k T B w a n c xs) : ∀ p, a = some p → B ≤ p.block := by
  intro p e
  rcases h.row with ⟨e', _⟩ | ⟨b', ys, e', hB, _⟩
  · rw [e'] at e; cases e
  · rw [e'] at e; cases e; exact hB

set_option maxHeartbeats 1000000 in
theorem mac_any {db N kc vc np cp : Nat} {ka va ap : Option Addr} {K V : List Nat} {pss : List (List Nat)} {w : World} (h : DrAt 52 w db K V N ka kc va vc) (hp : Pts w ap np pss) (hpd : ∀ ps ∈ pss, Dg 256 ps) (hk : KTab w)
    (hI : pss.flatten.length < 274877906944) :
    Calls Tryd.prog 22 #[.pointer (some ⟨db, 0, none⟩), .slice ap np cp] w (Gives32 w (hmacS K pss.flatten)) := by
  have cK := h.cK
  have hM := mkHid (phmac_any (cp := cp) h.ks (by omega) h.kd hp hpd hk hI)
  go_enter Tryd.func22, Tryd.ntmps22
  go_wp2_with (go_at_call 35; (with_reducible refine hM.out.mono ?_); rintro e w1 ⟨a', c', rfl, ho, hb1⟩)
  go_ret
  exact ⟨_, _, rfl, ho, hb1⟩

/-- what update computes -/
def up1 (x : Nat) (K V data : List Nat) : List Nat := hmacS K [V, [x], data].flatten
def up2 (K V : List Nat) : List Nat := hmacS K [V].flatten

def drUp (K V data : List Nat) : List Nat × List Nat :=
  if data = [] then (up1 0 K V data, up2 (up1 0 K V data) V)
  else (up1 1 (up1 0 K V data) (up2 (up1 0 K V data) V) data, up2 (up1 1 (up1 0 K V data) (up2 (up1 0 K V data) V) data) (up2 (up1 0 K V data) V))

theorem mac3 {db N kc vc dn dc : Nat} {ka va da : Option Addr} {K V data : List Nat} {w : World} (h : DrAt 52 w db K V N ka kc va vc) (hs : Sl .u8 w da dn dc data) (hd : Dg 256 data) (hn : dn ≤ 1073741824) (hk : KTab w) (x : Nat) (hx : x < 256) (y : Int) (hy : (x : Int) = y) :
    Calls Tryd.prog 22 #[.pointer (some ⟨db, 0, none⟩), .slice (some ⟨w.heap.size + 1, 0, none⟩) 3 3]
      ((w.alloc (Obj.cells #[.int .u8 y] 5)).alloc (Obj.cells #[.slice va 32 vc, .slice (some ⟨w.heap.size, 0, none⟩) 1 1, .slice da dn dc] 22)) (GivesS w (up1 x K V data)) := by
  subst hy
  have hb1 := below_alloc (Obj.cells #[.int .u8 (x : Int)] 5) (Nat.le_refl w.heap.size)
  have hb2 := hb1.alloc hb1.size (Obj.cells #[.slice va 32 vc, .slice (some ⟨w.heap.size, 0, none⟩) 1 1, .slice da dn dc] 22)
  refine (mac_any (h.keep hb2) (pts3 h.vs hs x) ?_ (hk.keep hb2) ?_).mono ?_
  · intro ps hps
    simp only [List.mem_cons, List.not_mem_nil, or_false] at hps
    rcases hps with rfl | rfl | rfl
    · exact h.vd
    · exact Dg.cons hx Dg.nil
    · exact hd
  · have := h.vs.len
    have := hs.len
    simp
    omega
  · rintro e w' ⟨a', c', rfl, ho, hb⟩
    exact ⟨a', c', rfl, ho.sl, hb2.trans (hb.mono hb2.size), fun p e => Nat.le_trans hb2.size (ho.fresh p e)⟩

theorem mac1 {db N kc vc : Nat} {ka va : Option Addr} {K V : List Nat} {w : World} (h : DrAt 52 w db K V N ka kc va vc) (hk : KTab w) :
    Calls Tryd.prog 22 #[.pointer (some ⟨db, 0, none⟩), .slice (some ⟨w.heap.size, 0, none⟩) 1 1] (w.alloc (Obj.cells #[.slice va 32 vc] 22)) (GivesS w (up2 K V)) := by
  have hb1 := below_alloc (Obj.cells #[.slice va 32 vc] 22) (Nat.le_refl w.heap.size)
  refine (mac_any (h.keep hb1) (pts1 h.vs) ?_ (hk.keep hb1) ?_).mono ?_
  · intro ps hps
    simp only [List.mem_cons, List.not_mem_nil, or_false] at hps
    subst hps
    exact h.vd
  · have := h.vs.len
    simp
    omega
  · rintro e w' ⟨a', c', rfl, ho, hb⟩
    exact ⟨a', c', rfl, ho.sl, hb1.trans (hb.mono hb1.size), fun p e => Nat.le_trans hb1.size (ho.fresh p e)⟩

/-- the generator's state moved on, and nothing else -/
def GivesUp (T : TypeId) (w : World) (db : Nat) (K V : List Nat) (N : Nat) (e : Ending) (w' : World) : Prop :=
  (∃ v, e = .returned v) ∧ Dr T w' db K V N ∧ w.grownBy w' (some db)

theorem up1_dg (x : Nat) (K V data : List Nat) : Dg 256 (up1 x K V data) := hmacS_dg _ _
theorem up2_dg (K V : List Nat) : Dg 256 (up2 K V) := hmacS_dg _ _

set_option maxRecDepth 100000 in
set_option maxHeartbeats 2000000 in
theorem pupd_any {db N dn dc : Nat} {da : Option Addr} {K V data : List Nat} {w : World} (h : Dr 52 w db K V N) (hs : Sl .u8 w da dn dc data) (hd : Dg 256 data) (hn : dn ≤ 1073741824) (hk : KTab w) :
    Calls Tryd.prog 20 #[.pointer (some ⟨db, 0, none⟩), .slice da dn dc] w (GivesUp 52 w db (drUp K V data).1 (drUp K V data).2 N) := by
  obtain ⟨ka, kc, va, vc, h⟩ := h
  have cV := h.cV
  have hM := mkHid (mac3 h hs hd hn hk 0 (by omega) 0 rfl)
  go_enter Tryd.func20, Tryd.ntmps20
  go_upto_region 1 with (go_at_call 22; (with_reducible refine hM.out.mono ?_); rintro e w1 ⟨a1, c1, rfl, ho1, hb1, _⟩; have h1 := h.keep hb1; have cK1 := h1.cK; have f1 := h1.row.frozen 0)
  have hg1 : w.grownBy (w1.setCell ⟨db, 0, none⟩ (.slice a1 32 c1)) (some db) := grown_set (below_grown hb1 _) 0 _
  have hk1 := h.kt hk hg1
  have hs1 := h.sl hs hg1
  have h1' := h1.setK ho1 (up1_dg 0 K V data)
  clear cV hM cK1 f1 h1 ho1
  generalize w1.setCell ⟨db, 0, none⟩ (.slice a1 32 c1) = W1 at *
  have cV := h1'.cV
  have hM := mkHid (mac1 h1' hk1)
  go_upto_region 2 with (go_at_call 22; (with_reducible refine hM.out.mono ?_); rintro e w2 ⟨a2, c2, rfl, ho2, hb2, _⟩; have h2 := h1'.keep hb2; have cV2 := h2.cV; have f2 := h2.row.frozen 1)
  have hg2 : W1.grownBy (w2.setCell ⟨db, 1, none⟩ (.slice a2 32 c2)) (some db) := grown_set (below_grown hb2 _) 1 _
  have hk2 := h1'.kt hk1 hg2
  have hs2 := h1'.sl hs1 hg2
  have h2' := h2.setV ho2 (up2_dg _ _)
  have hg12 := grown_trans hg1 hg2
  clear cV hM cV2 f2 h2 ho2
  generalize w2.setCell ⟨db, 1, none⟩ (.slice a2 32 c2) = W2 at *
  by_cases h0 : dn = 0
  · subst h0
    have e0 : data = [] := List.eq_nil_of_length_eq_zero hs.len
    have e1 : drUp K V data = (up1 0 K V data, up2 (up1 0 K V data) V) := if_pos e0
    have E1 := mkHid e1
    clear e0 e1
    go_wp2
    go_end0
    exact ⟨⟨_, rfl⟩, by rw [E1.out]; exact ⟨_, _, _, _, h2'⟩, hg12⟩
  · have e0 : ¬ data = [] := by intro e; subst e; exact h0 hs.len.symm
    have e1 : drUp K V data = _ := if_neg e0
    have E1 := mkHid e1
    have hpos : 0 < dn := by omega
    clear e0 e1 h0
    have cV := h2'.cV
    have hM := mkHid (mac3 h2' hs2 hd hn hk2 1 (by omega) 1 rfl)
    go_upto_region 4 with (go_at_call 22; (with_reducible refine hM.out.mono ?_); rintro e w3 ⟨a3, c3, rfl, ho3, hb3, _⟩; have h3 := h2'.keep hb3; have cK3 := h3.cK; have f3 := h3.row.frozen 0)
    have hg3 : W2.grownBy (w3.setCell ⟨db, 0, none⟩ (.slice a3 32 c3)) (some db) := grown_set (below_grown hb3 _) 0 _
    have hk3 := h2'.kt hk2 hg3
    have h3' := h3.setK ho3 (up1_dg _ _ _ _)
    have hg123 := grown_trans hg12 hg3
    clear cV hM cK3 f3 h3 ho3
    generalize w3.setCell ⟨db, 0, none⟩ (.slice a3 32 c3) = W3 at *
    have cV := h3'.cV
    have hM := mkHid (mac1 h3' hk3)
    go_wp2_with (go_at_call 22; (with_reducible refine hM.out.mono ?_); rintro e w4 ⟨a4, c4, rfl, ho4, hb4, _⟩; have h4 := h3'.keep hb4; have cV4 := h4.cV; have f4 := h4.row.frozen 1)
    have h4' := h4.setV ho4 (up2_dg _ _)
    go_end0
    exact ⟨⟨_, rfl⟩, by rw [E1.out]; exact ⟨_, _, _, _, h4'⟩, grown_trans hg123 (grown_set (below_grown hb4 _) 1 _)⟩

theorem left_any {T : TypeId} {db N kc vc : Nat} {ka va : Option Addr} {K V : List Nat} {w : World} (h : DrAt T w db K V N ka kc va vc) :
    Calls Tryd.prog 17 #[.pointer (some ⟨db, 0, none⟩)] w (RetN .i64 w N) := by
  have cN := h.cN
  go_enter Tryd.func17, Tryd.ntmps17
  go_wp2
  go_ret
  exact ⟨rfl, rfl⟩

theorem preseed_any {db N dn dc : Nat} {da : Option Addr} {K V data : List Nat} {w : World} (h : Dr 52 w db K V N) (hs : Sl .u8 w da dn dc data) (hd : Dg 256 data) (hn : dn ≤ 1073741824) (hk : KTab w) :
    Calls Tryd.prog 15 #[.pointer (some ⟨db, 0, none⟩), .slice da dn dc] w (GivesUp 52 w db (drUp K V data).1 (drUp K V data).2 0) := by
  have hM := mkHid (pupd_any h hs hd hn hk)
  clear h hs
  go_enter Tryd.func15, Tryd.ntmps15
  go_wp2_with (go_at_call 20; (with_reducible refine hM.out.mono ?_); rintro e w1 ⟨⟨v, rfl⟩, ⟨ka, kc, va, vc, h1⟩, hg1⟩; have cN := h1.cN; have f1 := h1.row.frozen 2)
  go_end0
  exact ⟨⟨_, rfl⟩, ⟨_, _, _, _, h1.setN 0⟩, grown_set hg1 2 _⟩

end Go.Proofs.YtaeamlldocbeeaaDoor
