/- SHA-256: what is computed, and the program's block function. -/
import Derived.Test.YtaeamlldocbeeaaDoorHashA
namespace Go.Proofs.YtaeamlldocbeeaaDoor
open Go.RowKit Go.Shelf Num

def not32 (a : Nat) : Nat := xor32 4294967295 a

theorem not32_eq (a : Nat) : bits .xor .u32 (if IntKind.u32.signed = true then -1 else IntKind.u32.max) (a : Int) = ((not32 a : Nat) : Int) := by
  unfold not32
  rw [← xor32_eq]
  rfl

def sig0 (x : Nat) : Nat := xor32 (xor32 (rotr x 128 33554432) (rotr x 262144 16384)) (x / 8)
def sig1 (x : Nat) : Nat := xor32 (xor32 (rotr x 131072 32768) (rotr x 524288 8192)) (x / 1024)
def Sig1 (e : Nat) : Nat := xor32 (xor32 (rotr e 64 67108864) (rotr e 2048 2097152)) (rotr e 33554432 128)
def Sig0 (a : Nat) : Nat := xor32 (xor32 (rotr a 4 1073741824) (rotr a 8192 524288)) (rotr a 4194304 1024)
def chs (e f g : Nat) : Nat := xor32 (and32 e f) (and32 (not32 e) g)
def maj (a b c : Nat) : Nat := xor32 (xor32 (and32 a b) (and32 a c)) (and32 b c)

/-- the n-th word of a block -/
def blkW (B : List Nat) (t : Nat) : Nat := be32 (B.getD (4 * t) 0) (B.getD (4 * t + 1) 0) (B.getD (4 * t + 2) 0) (B.getD (4 * t + 3) 0)

def nextW (ws : List Nat) (t : Nat) : Nat := add32 (add32 (add32 (ws.getD (t - 16) 0) (sig0 (ws.getD (t - 15) 0))) (ws.getD (t - 7) 0)) (sig1 (ws.getD (t - 2) 0))

/-- the first n words of the schedule -/
def sched (B : List Nat) : Nat → List Nat
  | 0 => []
  | t + 1 => sched B t ++ [if t < 16 then blkW B t else nextW (sched B t) t]

theorem sched_length (B : List Nat) (t : Nat) : (sched B t).length = t := by
  induction t with
  | zero => rfl
  | succ t ih => rw [sched, List.length_append, ih]; rfl

def sha256_hash (hb : Nat) (w : World) (kind : Int) (H : List Nat) (wait : Value) (n : Nat) : Prop := Row w hb 112 (.int .i64 kind :: (U .u64 H ++ [wait, .int .u64 (n : Int)]))

/-- the constants -/
def K512 : List Nat := [4794697086780616226, 8158064640168781261, 13096744586834688815, 16840607885511220156, 4131703408338449720, 6480981068601479193, 10538285296894168987, 12329834152419229976, 15566598209576043074, 1334009975649890238, 2608012711638119052, 6128411473006802146, 8268148722764581231, 9286055187155687089, 11230858885718282805, 13951009754708518548, 16472876342353939154, 17275323862435702243, 1135362057144423861, 2597628984639134821, 3308224258029322869, 5365058923640841347, 6679025012923562964, 8573033837759648693, 10970295158949994411, 12119686244451234320, 12683024718118986047, 13788192230050041572, 14330467153632333762, 15395433587784984357, 489312712824947311, 1452737877330783856, 2861767655752347644, 3322285676063803686, 5560940570517711597, 5996557281743188959, 7280758554555802590, 8532644243296465576, 9350256976987008742, 10552545826968843579, 11727347734174303076, 12113106623233404929, 14000437183269869457, 14369950271660146224, 15101387698204529176, 15463397548674623760, 17586052441742319658, 1182934255886127544, 1847814050463011016, 2177327727835720531, 2830643537854262169, 3796741975233480872, 4115178125766777443, 5681478168544905931, 6601373596472566643, 7507060721942968483, 8399075790359081724, 8693463985226723168, 9568029438360202098, 10144078919501101548, 10430055236837252648, 11840083180663258601, 13761210420658862357, 14299343276471374635, 14566680578165727644, 15097957966210449927, 16922976911328602910, 17689382322260857208, 500013540394364858, 748580250866718886, 1242879168328830382, 1977374033974150939, 2944078676154940804, 3659926193048069267, 4368137639120453308, 4836135668995329356, 5532061633213252278, 6448918945643986474, 6902733635092675308, 7801388544844847127]
def K256 : List Nat := (K512.take 64).map (· / 4294967296)

def rnd (k x : Nat) : List Nat → List Nat
  | [a, b, c, d, e, f, g, h] =>
    [add32 (add32 (add32 (add32 (add32 h (Sig1 e)) (chs e f g)) k) x) (add32 (Sig0 a) (maj a b c)), a, b, c, add32 d (add32 (add32 (add32 (add32 h (Sig1 e)) (chs e f g)) k) x), e, f, g]
  | v => v

/-- n rounds -/
def rounds (ws H : List Nat) : Nat → List Nat
  | 0 => H
  | t + 1 => rnd (K256.getD t 0) (ws.getD t 0) (rounds ws H t)

def addAll : List Nat → List Nat → List Nat
  | a :: r, b :: s => add32 a b :: addAll r s
  | _, _ => []

/-- a block taken in -/
def compress (H B : List Nat) : List Nat := addAll H (rounds (sched B 64) H 64)

/-- the table of the program's constants lies in its block -/
def KTab (w : World) : Prop := ∀ i, i < 64 → w.cell? ⟨3, i, none⟩ = some (.int .u64 ((K512.getD i 0 : Nat) : Int))

theorem be_cells {w : World} {b o n c : Nat} {B : List Nat} (h : Sl .u8 w (some ⟨b, o, none⟩) n c B) (hd : Dg 256 B) (t : Nat) (ht : t < n) : w.cell? ⟨b, o + t, none⟩ = some (.int .u8 ((B.getD t 0 : Nat) : Int)) ∧ B.getD t 0 < 256 := by
  obtain ⟨b', o', x, e, hc, hx⟩ := h.get t ht
  obtain ⟨rfl, rfl⟩ : b = b' ∧ o = o' := by simpa using e
  obtain ⟨h1, e1⟩ := hx.out
  have : B.getD t 0 = x := by simp [List.getD, h1, e1]
  rw [this]
  exact ⟨hc, by rw [← e1]; exact hd.at _ h1⟩

theorem get32_blk {w : World} {b o n c : Nat} {B : List Nat} (h : Sl .u8 w (some ⟨b, o, none⟩) n c B) (hd : Dg 256 B) (t : Nat) (ht : t < 16) (hn : 64 ≤ n) :
    Calls Tryd.prog 93 #[.slice (some ⟨b, o + 4 * t, none⟩) (n - 4 * t) (c - 4 * t)] w (GivesInt .u32 w (blkW B t)) := by
  obtain ⟨c0, d0⟩ := be_cells h hd (4 * t) (by omega)
  obtain ⟨c1, d1⟩ := be_cells h hd (4 * t + 1) (by omega)
  obtain ⟨c2, d2⟩ := be_cells h hd (4 * t + 2) (by omega)
  obtain ⟨c3, d3⟩ := be_cells h hd (4 * t + 3) (by omega)
  exact get32_any (by omega) c0 c1 c2 c3 d0 d1 d2 d3

theorem word_blk {w : World} {b o n c : Nat} {B : List Nat} (h : Sl .u8 w (some ⟨b, o, none⟩) n c B) (hd : Dg 256 B) (t : Nat) (ht : t < 16) (hn : 64 ≤ n) :
    Calls Tryd.prog 82 #[.slice (some ⟨b, o + 4 * t, none⟩) (n - 4 * t) (c - 4 * t)] w (GivesInt .u32 w (blkW B t)) := by
  obtain ⟨c0, d0⟩ := be_cells h hd (4 * t) (by omega)
  obtain ⟨c1, d1⟩ := be_cells h hd (4 * t + 1) (by omega)
  obtain ⟨c2, d2⟩ := be_cells h hd (4 * t + 2) (by omega)
  obtain ⟨c3, d3⟩ := be_cells h hd (4 * t + 3) (by omega)
  exact word_any (by omega) c0 c1 c2 c3 d0 d1 d2 d3

theorem grow_get {zs : List Nat} {N i p z : Nat} (hz : zs.length = i) (hp : p < i) (h : Hid (∃ h, (zs ++ List.replicate (N - i) 0)[p] = z)) : zs.getD p 0 = z := by
  obtain ⟨h1, e1⟩ := h.out
  rw [← e1, List.getElem_append_left (by omega)]
  simp [List.getD, show p < zs.length by omega]

theorem sched_lo (B : List Nat) (i : Nat) (h : i < 16) : sched B i ++ [blkW B i] = sched B (i + 1) := by rw [sched, if_pos h]
theorem sched_hi (B : List Nat) (i : Nat) (h : ¬ i < 16) : sched B i ++ [nextW (sched B i) i] = sched B (i + 1) := by rw [sched, if_neg h]

theorem nextW_mk {ws : List Nat} {i p16 p15 p7 p2 x16 x15 x7 x2 y15 y2 : Nat} (l16 : p16 + 16 ≤ i ∧ i ≤ p16 + 16) (l15 : p15 + 15 ≤ i ∧ i ≤ p15 + 15) (l7 : p7 + 7 ≤ i ∧ i ≤ p7 + 7) (l2 : p2 + 2 ≤ i ∧ i ≤ p2 + 2)
    (g16 : ws.getD p16 0 = x16) (g15 : ws.getD p15 0 = x15) (g7 : ws.getD p7 0 = x7) (g2 : ws.getD p2 0 = x2) (h15 : y15 = x15 / 8) (h2 : y2 = x2 / 1024) :
    add32 (add32 (add32 x16 (xor32 (xor32 (rotr x15 128 33554432) (rotr x15 262144 16384)) y15)) x7) (xor32 (xor32 (rotr x2 131072 32768) (rotr x2 524288 8192)) y2) = nextW ws i := by
  unfold nextW sig0 sig1
  rw [show i - 16 = p16 by omega, show i - 15 = p15 by omega, show i - 7 = p7 by omega, show i - 2 = p2 by omega, g16, g15, g7, g2, h15, h2]

theorem hash_cell {hb : Nat} {w : World} {kind : Int} {H : List Nat} {wait : Value} {n : Nat} (hh : sha256_hash hb w kind H wait n) (hH : H.length = 8) (i : Nat) (hi : i < 8) :
    w.cell? ⟨hb, 1 + i, none⟩ = some (.int .u64 ((H.getD i 0 : Nat) : Int)) := by
  unfold sha256_hash Row at hh
  have h1 : (U .u64 H)[i]? = some (.int .u64 ((H.getD i 0 : Nat) : Int)) := by simp [U, List.getD, show i < H.length by omega]
  simp only [World.cell?, hh, List.getElem?_toArray, Nat.add_comm 1 i, List.getElem?_cons_succ]
  rw [List.getElem?_append_left (by rw [U_length]; omega), h1]
  rfl

theorem hash_frozen {hb : Nat} {w : World} {kind : Int} {H : List Nat} {wait : Value} {n : Nat} (hh : sha256_hash hb w kind H wait n) (i : Nat) : w.frozen? ⟨hb, i, none⟩ = false := Row.frozen hh i

theorem hash_set {hb : Nat} {w : World} {kind : Int} {H : List Nat} {wait : Value} {n : Nat} (hh : sha256_hash hb w kind H wait n) (hH : H.length = 8) (i v : Nat) (hi : i < 8) :
    sha256_hash hb (w.setCell ⟨hb, 1 + i, none⟩ (.int .u64 (v : Int))) kind (H.set i v) wait n := by
  have := Row.set hh (1 + i) (.int .u64 (v : Int))
  unfold sha256_hash
  rw [Nat.add_comm 1 i, List.set_cons_succ, List.set_append_left _ _ (by rw [U_length]; omega), ← U_set, Nat.add_comm i 1] at this
  exact this

theorem take_snoc (H : List Nat) (i : Nat) (h : i < H.length) : H.take i ++ [H.getD i 0] = H.take (i + 1) := by
  rw [List.take_succ_eq_append_getElem h]
  simp [List.getD, h]

theorem rnd_length (k x : Nat) (v : List Nat) : (rnd k x v).length = v.length := by
  unfold rnd
  split <;> rfl

theorem rounds_length (ws H : List Nat) (t : Nat) : (rounds ws H t).length = H.length := by
  induction t with
  | zero => rfl
  | succ t ih => rw [rounds, rnd_length, ih]

theorem list8 {v : List Nat} (h : v.length = 8) : ∃ a b c d e f g i, v = [a, b, c, d, e, f, g, i] := by
  match v, h with
  | [a, b, c, d, e, f, g, i], _ => exact ⟨a, b, c, d, e, f, g, i, rfl⟩

theorem under_64 : Tryd.prog.underlying 129 = some (.array 64 82) := by kernel_rfl
theorem size_64 : (Tryd.prog.info? 129).map (·.size) = some 64 := by kernel_rfl
theorem under_8 : Tryd.prog.underlying 130 = some (.array 8 82) := by kernel_rfl
theorem size_8 : (Tryd.prog.info? 130).map (·.size) = some 8 := by kernel_rfl

theorem KTab.keep {w w' : World} (h : KTab w) (hb : Below w.heap.size w w') : KTab w' := by
  intro i hi
  have h1 := h i hi
  have h2 : 3 < w.heap.size := by
    apply Decidable.byContradiction
    intro hc
    have : w.heap[3]? = none := Array.getElem?_eq_none (by omega)
    simp [World.cell?, this] at h1
  have h3 := hb.block _ h2
  rw [World.cell?_of_block (a := ⟨3, i, none⟩) h3]
  exact h1

theorem K512_lt : ∀ i, i < 64 → K512.getD i 0 < 18446744073709551616 := by decide +kernel
theorem K256_eq : ∀ i, i < 64 → K512.getD i 0 / 4294967296 = K256.getD i 0 := by decide +kernel

theorem run_index_u32 (t : TypeId) (N : Nat) (w : World) (cs : Array Value) (i x : Nat) (h : Tryd.prog.underlying t = some (.array N 82)) (hi : i < N) (hv : cs[i]? = some (.int .u32 (x : Int))) :
    (Instr.index t (.agg cs) (.int .i64 (i : Int))).run Tryd.prog w = .ok (.int .u32 (x : Int)) w := by
  have hu : Tryd.prog.underlying 82 = some (.int .u32) := by kernel_rfl
  have hsz : (sizeOf 82).run Tryd.prog w = .ok 1 w := by
    unfold sizeOf typeInfo
    kernel_rfl
  have hc : (0 : Int) ≤ (i : Int) ∧ (i : Int) < (N : Int) := by omega
  simp [Instr.index, run_underlying h, asIntOf, hc, hsz, part, isAgg, run_underlying hu, hv, go_sem]
  intro hc2
  omega

/-- the state, i words of it renewed -/
def upd (H V : List Nat) (i : Nat) : List Nat := (addAll H V).take i ++ H.drop i

theorem upd_get {H V : List Nat} (hH : H.length = 8) (hV : V.length = 8) (i : Nat) (hi : i < 8) : (upd H V i).getD i 0 = H.getD i 0 := by
  obtain ⟨a, b, c, d, e, f, g, j, rfl⟩ := list8 hH
  obtain ⟨a', b', c', d', e', f', g', j', rfl⟩ := list8 hV
  match i, hi with
  | 0, _ | 1, _ | 2, _ | 3, _ | 4, _ | 5, _ | 6, _ | 7, _ => rfl

theorem upd_set {H V : List Nat} (hH : H.length = 8) (hV : V.length = 8) (i : Nat) (hi : i < 8) : (upd H V i).set i (add32 (H.getD i 0) (V.getD i 0)) = upd H V (i + 1) := by
  obtain ⟨a, b, c, d, e, f, g, j, rfl⟩ := list8 hH
  obtain ⟨a', b', c', d', e', f', g', j', rfl⟩ := list8 hV
  match i, hi with
  | 0, _ | 1, _ | 2, _ | 3, _ | 4, _ | 5, _ | 6, _ | 7, _ => rfl

theorem upd_length {H V : List Nat} (hH : H.length = 8) (hV : V.length = 8) (i : Nat) (hi : i ≤ 8) : (upd H V i).length = 8 := by
  obtain ⟨a, b, c, d, e, f, g, j, rfl⟩ := list8 hH
  obtain ⟨a', b', c', d', e', f', g', j', rfl⟩ := list8 hV
  match i, hi with
  | 0, _ | 1, _ | 2, _ | 3, _ | 4, _ | 5, _ | 6, _ | 7, _ | 8, _ => rfl

theorem upd_end {H V : List Nat} (hH : H.length = 8) (hV : V.length = 8) : upd H V 8 = addAll H V := by
  obtain ⟨a, b, c, d, e, f, g, j, rfl⟩ := list8 hH
  obtain ⟨a', b', c', d', e', f', g', j', rfl⟩ := list8 hV
  rfl

theorem Row.grown' {w w' : World} {b b' : Nat} {T : TypeId} {vs : List Value} (h : Row w b T vs) (hg : w.grownBy w' (some b')) (hne : b ≠ b') : Row w' b T vs := h.grown hg hne

/-- the hash was moved on, and nothing else -/
def GivesHash (w : World) (hb : Nat) (kind : Int) (H : List Nat) (wait : Value) (n : Nat) (e : Ending) (w' : World) : Prop :=
  (∃ v, e = .returned v) ∧ sha256_hash hb w' kind H wait n ∧ w.grownBy w' (some hb)

attribute [local go_sem] xor32_eq and32_eq add32_eq not32_eq

set_option maxRecDepth 100000 in
set_option maxHeartbeats 4000000 in
theorem psha_any {hb : Nat} {ap : Option Addr} {cp : Nat} {B H : List Nat} {w : World} {kind : Int} {wait : Value} {n : Nat} (h : Sl .u8 w ap 64 cp B) (hd : Dg 256 B) (hh : sha256_hash hb w kind H wait n) (hH : H.length = 8) (hHd : Dg 4294967296 H) (hk : KTab w) :
    Calls Tryd.prog 91 #[.pointer (some ⟨hb, 0, none⟩), .slice ap 64 cp] w (GivesHash w hb kind (compress H B) wait n) := by
  have hcp : 64 ≤ cp := h.le
  obtain ⟨bp, op, x0, rfl, _, _⟩ := h.get 0 (by omega)
  go_enter Tryd.func91, Tryd.ntmps91
  go_upto_region 1 with (fail)
  obtain ⟨w1, bw, hw1, hbw, hblk, hbel, hsz⟩ := newNums w .u32 129 (List.replicate 64 0)
  refine (?_ : Code.wp _ _ _ _ (w.alloc (Obj.cells (U .u32 (List.replicate 64 0)).toArray 129)))
  rw [← hw1, ← hbw]
  have hbB : w.heap.size ≤ bw := by omega
  clear hw1 hbw
  go_wp2
  go_loopw [21] (fun iv wr => ∃ i : Nat, i ≤ 64 ∧ iv = .int .i64 i ∧ Blk wr bw .u32 129 (sched B i ++ List.replicate (64 - i) 0) ∧ Below w.heap.size w wr) (fun iv _ => 64 - (intOf iv).toNat)
  case atStart => exact ⟨0, by omega, rfl, hblk, hbel⟩
  case round =>
    clear hblk hbel hsz
    obtain ⟨i, hi, rfl, hblk, hbel⟩ := hrel
    by_cases hlt : i < 64
    · have hl := sched_length B i
      obtain ⟨z0, hcb, hfb, _⟩ := hblk.get i (by rw [List.length_append, List.length_replicate]; omega)
      by_cases h16 : i < 16
      · have t2 : decide ((i : Int) < 16) = true := decide_eq_true (by omega)
        have i64 : (i : Int) < 64 := by omega
        have e4 : wrap64 (4 * (i : Int)) = ((4 * i : Nat) : Int) := by rw [IntWalk.wrap64_in _ (by omega)]; omega
        have i4 : ((4 * i : Nat) : Int) ≤ 64 := by omega
        clear hcb hfb
        go_wp2_with (go_at_call 93; (with_reducible refine (get32_blk (h.keep hbel) hd i h16 (by omega)).mono ?_); rintro e wq ⟨rfl, hbq⟩; have hblkq := hblk.keep hbq; obtain ⟨z0, hcb, hfb, _⟩ := hblkq.get i (by rw [List.length_append, List.length_replicate]; omega))
        go_roundw
        case rel =>
          refine ⟨i + 1, by omega, by go_num, ?_, (hbel.trans (hbq.mono hbel.size)).setCell hbB _⟩
          have := hblkq.set i (blkW B i)
          rwa [set_grow _ i _ _ 0 hl (by omega), sched_lo B i h16] at this
        case measure => simp [intOf]; omega
      · have t2 : decide ((i : Int) < 16) = false := decide_eq_false (by omega)
        obtain ⟨p16, e16, l16⟩ : ∃ p : Nat, (i : Int) - 16 = (p : Int) ∧ (p + 16 ≤ i ∧ i ≤ p + 16) := ⟨i - 16, by omega, by omega⟩
        obtain ⟨p15, e15, l15⟩ : ∃ p : Nat, (i : Int) - 15 = (p : Int) ∧ (p + 15 ≤ i ∧ i ≤ p + 15) := ⟨i - 15, by omega, by omega⟩
        obtain ⟨p7, e7, l7⟩ : ∃ p : Nat, (i : Int) - 7 = (p : Int) ∧ (p + 7 ≤ i ∧ i ≤ p + 7) := ⟨i - 7, by omega, by omega⟩
        obtain ⟨p2, e2, l2⟩ : ∃ p : Nat, (i : Int) - 2 = (p : Int) ∧ (p + 2 ≤ i ∧ i ≤ p + 2) := ⟨i - 2, by omega, by omega⟩
        obtain ⟨x16, c16, _, g16⟩ := hblk.get p16 (by rw [List.length_append, List.length_replicate]; omega)
        obtain ⟨x15, c15, _, g15⟩ := hblk.get p15 (by rw [List.length_append, List.length_replicate]; omega)
        obtain ⟨x7, c7, _, g7⟩ := hblk.get p7 (by rw [List.length_append, List.length_replicate]; omega)
        obtain ⟨x2, c2, _, g2⟩ := hblk.get p2 (by rw [List.length_append, List.length_replicate]; omega)
        have i64 : (i : Int) < 64 := by omega
        have i16 : (p16 : Int) < 64 := by omega
        have i15 : (p15 : Int) < 64 := by omega
        have i7 : (p7 : Int) < 64 := by omega
        have i2 : (p2 : Int) < 64 := by omega
        obtain ⟨y15, hy15⟩ : ∃ y, y = x15 / 8 := ⟨_, rfl⟩
        obtain ⟨y2, hy2⟩ : ∃ y, y = x2 / 1024 := ⟨_, rfl⟩
        have d15 : (x15 : Int) / 8 = (y15 : Int) := by rw [hy15]; rfl
        have d2 : (x2 : Int) / 1024 = (y2 : Int) := by rw [hy2]; rfl
        have HY15 := mkHid hy15
        have HY2 := mkHid hy2
        clear hy15 hy2
        go_wp2
        go_quiet (fail)
        go_wp2_with (first
          | (go_at_call 94; (with_reducible refine (rot7_any).mono ?_); rintro e wq ⟨rfl, rfl⟩)
          | (go_at_call 94; (with_reducible refine (rot18_any).mono ?_); rintro e wq ⟨rfl, rfl⟩)
          | (go_at_call 94; (with_reducible refine (rot17_any).mono ?_); rintro e wq ⟨rfl, rfl⟩)
          | (go_at_call 94; (with_reducible refine (rot19_any).mono ?_); rintro e wq ⟨rfl, rfl⟩))
        have hblkq : Blk (wr.drewN nq) bw .u32 129 (sched B i ++ List.replicate (64 - i) 0) := hblk.drewN nq
        have hbelq : Below w.heap.size w (wr.drewN nq) := belowN hbel nq
        have k16 : (wr.drewN nq).cell? ⟨bw, p16, none⟩ = some (.int .u32 (x16 : Int)) := c16
        have k7 : (wr.drewN nq).cell? ⟨bw, p7, none⟩ = some (.int .u32 (x7 : Int)) := c7
        have kcb : (wr.drewN nq).cell? ⟨bw, i, none⟩ = some (.int .u32 (z0 : Int)) := hcb
        have kfb : (wr.drewN nq).frozen? ⟨bw, i, none⟩ = false := hfb
        clear c16 c15 c7 c2 hcb hfb hblk hbel
        generalize wr.drewN nq = wq at *
        go_region
        go_wp2
        go_roundw
        case rel =>
          refine ⟨i + 1, by omega, by go_num, ?_, (hbelq.setCell hbB _).drew⟩
          have hv := nextW_mk l16 l15 l7 l2 (grow_get hl (by omega) g16) (grow_get hl (by omega) g15) (grow_get hl (by omega) g7) (grow_get hl (by omega) g2) HY15.out HY2.out
          rw [hv]
          have := hblkq.set i (nextW (sched B i) i)
          rw [set_grow _ i _ _ 0 hl (by omega), sched_hi B i h16] at this
          exact this
        case measure => simp [intOf]; omega
    · obtain rfl : i = 64 := by omega
      rw [Nat.sub_self, List.replicate_zero, List.append_nil] at hblk
      have hhr := Row.keep hh hbel
      clear hlt hi
      go_upto_region 12 with (fail)
      obtain ⟨w2, bv, hw2, hbv, hblv, hbelv, hsz2⟩ := newNums wr .u32 130 (List.replicate 8 0)
      refine (?_ : Code.wp _ _ _ _ (wr.alloc (Obj.cells (U .u32 (List.replicate 8 0)).toArray 130)))
      rw [← hw2, ← hbv]
      have hbvB : wr.heap.size ≤ bv := by omega
      clear hw2 hbv
      obtain ⟨W1, rfl⟩ : ∃ x, x = wr := ⟨_, rfl⟩
      go_wp2
      go_loopw [73] (fun iv wr => ∃ i : Nat, i ≤ 8 ∧ iv = .int .i64 i ∧ Blk wr bv .u32 130 (H.take i ++ List.replicate (8 - i) 0) ∧ Below W1.heap.size W1 wr) (fun iv _ => 8 - (intOf iv).toNat)
      case atStart => exact ⟨0, by omega, rfl, hblv, hbelv⟩
      case round =>
        clear hblv hbelv hsz2
        obtain ⟨i, hi, rfl, hblv, hbelv⟩ := hrel
        by_cases hlt : i < 8
        · have hl : (H.take i).length = i := by rw [List.length_take]; omega
          obtain ⟨z0, hcb, hfb, _⟩ := hblv.get i (by rw [List.length_append, List.length_replicate]; omega)
          have hhw := Row.keep hhr hbelv
          have hcx := hash_cell hhw hH i hlt
          obtain ⟨x, hx⟩ : ∃ x, x = H.getD i 0 := ⟨_, rfl⟩
          have hxl : x < 4294967296 := by rw [hx, List.getD, List.getElem?_eq_getElem (by omega)]; exact hHd.at _ (by omega)
          rw [← hx] at hcx
          have HX := mkHid hx
          have i8 : (i : Int) < 8 := by omega
          clear hx
          go_wp2
          go_roundw
          case rel =>
            refine ⟨i + 1, by omega, by go_num, ?_, hbelv.setCell hbvB _⟩
            have := hblv.set i x
            rw [set_grow _ i _ _ 0 hl (by omega), show H.take i ++ [x] = H.take (i + 1) by rw [HX.out]; exact take_snoc H i (by omega)] at this
            exact this
          case measure => simp [intOf]; omega
        · obtain rfl : i = 8 := by omega
          rw [Nat.sub_self, List.replicate_zero, List.append_nil, List.take_of_length_le (by omega)] at hblv
          have hblw := hblk.keep hbelv
          have hhw := Row.keep hhr hbelv
          have hkw : KTab W1 := hk.keep hbel
          clear hlt hi
          obtain ⟨W2, rfl⟩ : ∃ x, x = wr := ⟨_, rfl⟩
          have hsz : (Tryd.prog.info? 129).map (·.size) = some (U .u32 (sched B 64)).toArray.size := by
            rw [List.size_toArray, U_length, sched_length]
            exact size_64
          go_wp2_with (refine wpList_load_row rfl 129 (.tmp 4) rfl bw rfl 129 _ (0, 0) _ hblw under_64 rfl hsz ?_)
          go_loopw [87] (fun iv wr => ∃ i a b c d e f g j : Nat, i ≤ 64 ∧ iv = .int .i64 i ∧ Hid (rounds (sched B 64) H i = [a, b, c, d, e, f, g, j]) ∧ Blk wr bv .u32 130 [a, b, c, d, e, f, g, j] ∧ Below W1.heap.size W1 wr) (fun iv _ => 64 - (intOf iv).toNat)
          case atStart =>
            obtain ⟨a, b, c, d, e, f, g, j, rfl⟩ := list8 hH
            exact ⟨0, a, b, c, d, e, f, g, j, by omega, rfl, rfl, hblv, hbelv⟩
          case round =>
            clear hblv hbelv hblw hhw
            obtain ⟨i, a, b, c, d, e, f, g, j, hi, rfl, hrd, hblv, hbelv⟩ := hrel
            by_cases hlt : i < 64
            · have hkr := (hkw.keep hbelv) i hlt
              obtain ⟨kv, hkv⟩ : ∃ x, x = K512.getD i 0 := ⟨_, rfl⟩
              obtain ⟨kk, hkk⟩ : ∃ x, x = kv / 4294967296 := ⟨_, rfl⟩
              have hkl : kk < 4294967296 := by have := K512_lt i hlt; rw [← hkv] at this; omega
              rw [← hkv] at hkr
              have ek : (kv : Int) / 4294967296 = (kk : Int) := by rw [hkk]; rfl
              have HKK : Hid (kk = K256.getD i 0) := by show _ = _; rw [hkk, hkv]; exact K256_eq i hlt
              clear hkv hkk
              have hfr : ∀ q, wr.frozen? ⟨bv, q, none⟩ = false := hblv.frozen
              have c0 : wr.cell? ⟨bv, 0, none⟩ = some (.int .u32 (a : Int)) := hblv.cell 0 (by simp)
              have c1 : wr.cell? ⟨bv, 1, none⟩ = some (.int .u32 (b : Int)) := hblv.cell 1 (by simp)
              have c2 : wr.cell? ⟨bv, 2, none⟩ = some (.int .u32 (c : Int)) := hblv.cell 2 (by simp)
              have c3 : wr.cell? ⟨bv, 3, none⟩ = some (.int .u32 (d : Int)) := hblv.cell 3 (by simp)
              have c4 : wr.cell? ⟨bv, 4, none⟩ = some (.int .u32 (e : Int)) := hblv.cell 4 (by simp)
              have c5 : wr.cell? ⟨bv, 5, none⟩ = some (.int .u32 (f : Int)) := hblv.cell 5 (by simp)
              have c6 : wr.cell? ⟨bv, 6, none⟩ = some (.int .u32 (g : Int)) := hblv.cell 6 (by simp)
              have c7 : wr.cell? ⟨bv, 7, none⟩ = some (.int .u32 (j : Int)) := hblv.cell 7 (by simp)
              obtain ⟨x, hx⟩ : ∃ x, x = (sched B 64).getD i 0 := ⟨_, rfl⟩
              have hxa : (U .u32 (sched B 64)).toArray[i]? = some (.int .u32 (x : Int)) := by
                rw [hx, List.getElem?_toArray]
                simp [U, List.getD, show i < (sched B 64).length by rw [sched_length]; exact hlt]
              have HX := mkHid hx
              have hidx := fun w => run_index_u32 129 64 w (U .u32 (sched B 64)).toArray i x under_64 hlt hxa
              clear hx
              have i64 : (i : Int) < 64 := by omega
              go_wp2
              go_quiet (fail)
              have k0 : (wr.drewN nq).cell? ⟨bv, 0, none⟩ = some (.int .u32 (a : Int)) := c0
              have k1 : (wr.drewN nq).cell? ⟨bv, 1, none⟩ = some (.int .u32 (b : Int)) := c1
              have k2 : (wr.drewN nq).cell? ⟨bv, 2, none⟩ = some (.int .u32 (c : Int)) := c2
              have k3 : (wr.drewN nq).cell? ⟨bv, 3, none⟩ = some (.int .u32 (d : Int)) := c3
              have k4 : (wr.drewN nq).cell? ⟨bv, 4, none⟩ = some (.int .u32 (e : Int)) := c4
              have k5 : (wr.drewN nq).cell? ⟨bv, 5, none⟩ = some (.int .u32 (f : Int)) := c5
              have k6 : (wr.drewN nq).cell? ⟨bv, 6, none⟩ = some (.int .u32 (g : Int)) := c6
              have k7 : (wr.drewN nq).cell? ⟨bv, 7, none⟩ = some (.int .u32 (j : Int)) := c7
              have kk3 : (wr.drewN nq).cell? ⟨3, i, none⟩ = some (.int .u64 (kv : Int)) := hkr
              have kbl : Blk (wr.drewN nq) bv .u32 130 [a, b, c, d, e, f, g, j] := hblv.drewN nq
              have kbel : Below W1.heap.size W1 (wr.drewN nq) := belowN hbelv nq
              have kfr : ∀ q, (wr.drewN nq).frozen? ⟨bv, q, none⟩ = false := hfr
              clear c0 c1 c2 c3 c4 c5 c6 c7 hkr hblv hbelv hfr
              generalize wr.drewN nq = W3 at *
              have c0 := k0; have c1 := k1; have c2 := k2; have c3 := k3; have c4 := k4; have c5 := k5; have c6 := k6; have c7 := k7; have hkr := kk3; have hblv := kbl; have hbelv := kbel; have hfr := kfr
              clear k0 k1 k2 k3 k4 k5 k6 k7 kk3 kbl kbel kfr
              go_wp2_with (first
                | (go_at_call 94; (with_reducible refine (rot6_any).mono ?_); rintro e wq ⟨rfl, rfl⟩)
                | (go_at_call 94; (with_reducible refine (rot11_any).mono ?_); rintro e wq ⟨rfl, rfl⟩)
                | (go_at_call 94; (with_reducible refine (rot25_any).mono ?_); rintro e wq ⟨rfl, rfl⟩)
                | (go_at_call 94; (with_reducible refine (rot2_any).mono ?_); rintro e wq ⟨rfl, rfl⟩)
                | (go_at_call 94; (with_reducible refine (rot13_any).mono ?_); rintro e wq ⟨rfl, rfl⟩)
                | (go_at_call 94; (with_reducible refine (rot22_any).mono ?_); rintro e wq ⟨rfl, rfl⟩))
              go_quiet (fail)
              have k0 : (W3.drewN nq).cell? ⟨bv, 0, none⟩ = some (.int .u32 (a : Int)) := c0
              have k1 : (W3.drewN nq).cell? ⟨bv, 1, none⟩ = some (.int .u32 (b : Int)) := c1
              have k2 : (W3.drewN nq).cell? ⟨bv, 2, none⟩ = some (.int .u32 (c : Int)) := c2
              have k3 : (W3.drewN nq).cell? ⟨bv, 3, none⟩ = some (.int .u32 (d : Int)) := c3
              have k4 : (W3.drewN nq).cell? ⟨bv, 4, none⟩ = some (.int .u32 (e : Int)) := c4
              have k5 : (W3.drewN nq).cell? ⟨bv, 5, none⟩ = some (.int .u32 (f : Int)) := c5
              have k6 : (W3.drewN nq).cell? ⟨bv, 6, none⟩ = some (.int .u32 (g : Int)) := c6
              have k7 : (W3.drewN nq).cell? ⟨bv, 7, none⟩ = some (.int .u32 (j : Int)) := c7
              have kbl : Blk (W3.drewN nq) bv .u32 130 [a, b, c, d, e, f, g, j] := hblv.drewN nq
              have kbel : Below W1.heap.size W1 (W3.drewN nq) := belowN hbelv nq
              have kfr : ∀ q, (W3.drewN nq).frozen? ⟨bv, q, none⟩ = false := hfr
              clear c0 c1 c2 c3 c4 c5 c6 c7 hkr hblv hbelv hfr
              generalize W3.drewN nq = W4 at *
              have c0 := k0; have c1 := k1; have c2 := k2; have c3 := k3; have c4 := k4; have c5 := k5; have c6 := k6; have c7 := k7; have hblv := kbl; have hbelv := kbel; have hfr := kfr
              clear k0 k1 k2 k3 k4 k5 k6 k7 kbl kbel kfr
              go_wp2_with (first
                | (go_at_call 94; (with_reducible refine (rot2_any).mono ?_); rintro e wq ⟨rfl, rfl⟩)
                | (go_at_call 94; (with_reducible refine (rot13_any).mono ?_); rintro e wq ⟨rfl, rfl⟩)
                | (go_at_call 94; (with_reducible refine (rot22_any).mono ?_); rintro e wq ⟨rfl, rfl⟩))
              go_roundw
              case rel =>
                refine ⟨i + 1, add32 (add32 (add32 (add32 (add32 j (Sig1 e)) (chs e f g)) kk) x) (add32 (Sig0 a) (maj a b c)), a, b, c, add32 d (add32 (add32 (add32 (add32 j (Sig1 e)) (chs e f g)) kk) x), e, f, g, by omega, by go_num, ?_,
                  (((((((hblv.set 0 _).set 1 a).set 2 b).set 3 c).set 4 _).set 5 e).set 6 f).set 7 g,
                  (((((((hbelv.setCell hbvB _).setCell hbvB _).setCell hbvB _).setCell hbvB _).setCell hbvB _).setCell hbvB _).setCell hbvB _).setCell hbvB _⟩
                show _ = _
                rw [rounds, hrd.out, ← HKK.out, ← HX.out]
                rfl
              case measure => simp [intOf]; omega
            · obtain rfl : i = 64 := by omega
              have hhw := Row.keep hhr hbelv
              have hlV : [a, b, c, d, e, f, g, j].length = 8 := rfl
              have hCO : Hid (compress H B = addAll H [a, b, c, d, e, f, g, j]) := by
                show _ = _
                unfold compress
                rw [hrd.out]
              clear hrd
              generalize [a, b, c, d, e, f, g, j] = V at *
              have hgw : w.grownBy wr (some hb) := grown_trans (below_grown hbel _) (below_grown hbelv _)
              clear hlt hi hk hkw hbel
              obtain ⟨W5, rfl⟩ : ∃ x, x = wr := ⟨_, rfl⟩
              unfold Blk at hblv
              have hsz8 : (Tryd.prog.info? 130).map (·.size) = some (U .u32 V).toArray.size := by
                rw [List.size_toArray, U_length, hlV]
                exact size_8
              go_wp2_with (refine wpList_load_row rfl 130 (.tmp 10) rfl bv rfl 130 _ (0, 0) _ hblv under_8 rfl hsz8 ?_)
              go_loopw [171] (fun iv wr => ∃ i : Nat, i ≤ 8 ∧ iv = .int .i64 i ∧ sha256_hash hb wr kind (upd H V i) wait n ∧ W5.grownBy wr (some hb)) (fun iv _ => 8 - (intOf iv).toNat)
              case atStart => exact ⟨0, by omega, rfl, hhw, grown_refl _ _⟩
              case round =>
                obtain ⟨i, hi, rfl, hhi, hgi⟩ := hrel
                by_cases hlt : i < 8
                · have hcx := hash_cell hhi (upd_length hH hlV i hi) i hlt
                  rw [upd_get hH hlV i hlt] at hcx
                  obtain ⟨x, hx⟩ : ∃ x, x = H.getD i 0 := ⟨_, rfl⟩
                  have hxl : x < 4294967296 := by rw [hx, List.getD, List.getElem?_eq_getElem (by omega)]; exact hHd.at _ (by omega)
                  rw [← hx] at hcx
                  obtain ⟨y, hy⟩ : ∃ y, y = V.getD i 0 := ⟨_, rfl⟩
                  have hya : (U .u32 V).toArray[i]? = some (.int .u32 (y : Int)) := by
                    rw [hy, List.getElem?_toArray]
                    simp [U, List.getD, show i < V.length by omega]
                  have hidx := fun w => run_index_u32 130 8 w (U .u32 V).toArray i y under_8 hlt hya
                  have hlt2 := add32_lt x y
                  have hfz := fun q => hash_frozen hhi q
                  have HX := mkHid hx
                  have HY := mkHid hy
                  have i8 : (i : Int) < 8 := by omega
                  clear hx hy
                  go_upto_region 30 with (fail)
                  go_region
                  go_wp2
                  go_roundw
                  case rel =>
                    refine ⟨i + 1, by omega, by go_num, ?_, grown_drew (grown_set hgi (1 + i) _)⟩
                    have := hash_set hhi (upd_length hH hlV i hi) i (add32 x y) hlt
                    rw [show (upd H V i).set i (add32 x y) = upd H V (i + 1) by rw [HX.out, HY.out]; exact upd_set hH hlV i hlt] at this
                    exact this
                  case measure => simp [intOf]; omega
                · obtain rfl : i = 8 := by omega
                  rw [upd_end hH hlV, ← hCO.out] at hhi
                  go_wp2
                  go_end0
                  exact ⟨⟨_, rfl⟩, hhi, grown_trans hgw hgi⟩

end Go.Proofs.YtaeamlldocbeeaaDoor
