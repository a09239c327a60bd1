/- Words for slices of numbers in memory, and laws of the walk on make, append and stores; the program's own tables are asked as premises. -/
import Derived.WalkKit
import Derived.KernelRfl
import Derived.WalkLawsBesides
import Derived.Deep.LoopGhost
import Derived.Deep.QuietTactic
import Derived.BigQuiet
import Derived.Deep.CutBlock
import Derived.Deep.DeepCutAuto
import Derived.Laws.CopyOwn
import Derived.StillTailTactics
import Derived.Test.YtaeamlldocbeeaaDoorNum
namespace Go.Proofs.YtaeamlldocbeeaaDoor
open Go.RowKit Num

theorem mkHid {p : Prop} (h : p) : Hid p := h

/-- numbers as values -/
def U (k : IntKind) (xs : List Nat) : List Value := xs.map fun (x : Nat) => Value.int k (x : Int)

theorem U_length (k : IntKind) (xs : List Nat) : (U k xs).length = xs.length := by simp [U]

theorem U_get (k : IntKind) (xs : List Nat) (i : Nat) : (U k xs)[i]? = (xs[i]?).map fun (x : Nat) => Value.int k (x : Int) := by simp [U]

theorem U_append (k : IntKind) (xs ys : List Nat) : U k (xs ++ ys) = U k xs ++ U k ys := by simp [U]

theorem U_set (k : IntKind) (xs : List Nat) (i x : Nat) : U k (xs.set i x) = (U k xs).set i (.int k (x : Int)) := by simp [U, List.map_set]

theorem U_oneCell (k : IntKind) (xs : List Nat) : ∀ u ∈ U k xs, u.oneCell' = true := by
  intro u hu
  obtain ⟨_, _, rfl⟩ := List.mem_map.1 hu
  rfl

/-- block b is a row of cells -/
def Row (w : World) (b : Nat) (T : TypeId) (vs : List Value) : Prop := w.heap[b]? = some (.cells vs.toArray T (0, 0))

theorem Row.lt {w : World} {b : Nat} {T : TypeId} {vs : List Value} (h : Row w b T vs) : b < w.heap.size :=
  (Array.getElem?_eq_some_iff.1 h).1

theorem Row.cell {w : World} {b : Nat} {T : TypeId} {vs : List Value} (h : Row w b T vs) (i : Nat) : w.cell? ⟨b, i, none⟩ = vs[i]? := by
  unfold Row at h
  simp [World.cell?, h]

theorem Row.frozen {w : World} {b : Nat} {T : TypeId} {vs : List Value} (h : Row w b T vs) (i : Nat) : w.frozen? ⟨b, i, none⟩ = false := by
  unfold Row at h
  simp [World.frozen?, h]

theorem Row.keep {w w' : World} {b : Nat} {T : TypeId} {vs : List Value} (h : Row w b T vs) (hb : Below w.heap.size w w') : Row w' b T vs :=
  (hb.block b h.lt).trans h

theorem Row.set {w : World} {b : Nat} {T : TypeId} {vs : List Value} (h : Row w b T vs) (i : Nat) (x : Value) : Row (w.setCell ⟨b, i, none⟩ x) b T (vs.set i x) := by
  unfold Row at h ⊢
  simp only [World.setCell, Array.getElem?_modify]
  simp [h]

theorem Row.set_other {w : World} {b b' : Nat} {T : TypeId} {vs : List Value} (h : Row w b T vs) (hne : b' ≠ b) (i : Nat) (x : Value) : Row (w.setCell ⟨b', i, none⟩ x) b T vs :=
  (Below.heap_setCell w ⟨b', i, none⟩ x b (Ne.symm hne)).trans h

/-- block b is a row of numbers -/
def Blk (w : World) (b : Nat) (k : IntKind) (T : TypeId) (xs : List Nat) : Prop := w.heap[b]? = some (.cells (U k xs).toArray T (0, 0))

theorem Blk.lt {w : World} {b : Nat} {k : IntKind} {T : TypeId} {xs : List Nat} (h : Blk w b k T xs) : b < w.heap.size :=
  (Array.getElem?_eq_some_iff.1 h).1

theorem Blk.cell {w : World} {b : Nat} {k : IntKind} {T : TypeId} {xs : List Nat} (h : Blk w b k T xs) (i : Nat) (hi : i < xs.length) :
    w.cell? ⟨b, i, none⟩ = some (.int k (xs[i] : Nat)) := by
  unfold Blk at h
  simp [World.cell?, h, U, hi]

theorem Blk.frozen {w : World} {b : Nat} {k : IntKind} {T : TypeId} {xs : List Nat} (h : Blk w b k T xs) (i : Nat) :
    w.frozen? ⟨b, i, none⟩ = false := by
  unfold Blk at h
  simp [World.frozen?, h]

theorem Blk.keep {w w' : World} {b : Nat} {k : IntKind} {T : TypeId} {xs : List Nat} (h : Blk w b k T xs) (hb : Below w.heap.size w w') : Blk w' b k T xs :=
  (hb.block b h.lt).trans h

theorem Blk.set {w : World} {b : Nat} {k : IntKind} {T : TypeId} {xs : List Nat} (h : Blk w b k T xs) (i x : Nat) :
    Blk (w.setCell ⟨b, i, none⟩ (.int k (x : Int))) b k T (xs.set i x) := by
  have h' := h
  unfold Blk at h ⊢
  simp only [World.setCell, Array.getElem?_modify]
  rw [U_set]
  simp [h]

theorem Blk.other {w : World} {b : Nat} {k : IntKind} {T : TypeId} {xs : List Nat} (h : Blk w b k T xs) {p : Addr} (hp : p.block ≠ b) (u : Value) :
    Blk (w.setCell p u) b k T xs :=
  (Below.heap_setCell w p u b (Ne.symm hp)).trans h

theorem Blk.alloc {w : World} {b : Nat} {k : IntKind} {T : TypeId} {xs : List Nat} (h : Blk w b k T xs) (o : Obj) : Blk (w.alloc o) b k T xs :=
  h.keep ((Below.refl _ _).alloc (Nat.le_refl _) _)

theorem Blk.drew {w : World} {b : Nat} {k : IntKind} {T : TypeId} {xs : List Nat} (h : Blk w b k T xs) : Blk w.drew b k T xs := h

theorem Blk.drewN {w : World} {b : Nat} {k : IntKind} {T : TypeId} {xs : List Nat} (h : Blk w b k T xs) (m : Nat) : Blk (w.drewN m) b k T xs := h

/-- the numbers from an address on -/
def Rd (k : IntKind) (w : World) (a : Option Addr) (xs : List Nat) : Prop :=
  ∀ i (h : i < xs.length), ∃ b o, a = some ⟨b, o, none⟩ ∧ w.cell? ⟨b, o + i, none⟩ = some (.int k (xs[i] : Nat))

/-- a slice (a, n, c) that reads xs -/
structure Sl (k : IntKind) (w : World) (a : Option Addr) (n c : Nat) (xs : List Nat) : Prop where
  len : xs.length = n
  le : n ≤ c
  cap : c ≤ 9223372036854775807
  nil : a = none → c = 0
  spot : ∀ p, a = some p → 0 < c → p.spot = none
  rd : Rd k w a xs

/-- a slice (a, n, c) that reads xs, in a row of its own from block B on -/
structure Own (k : IntKind) (T : TypeId) (B : Nat) (w : World) (a : Option Addr) (n c : Nat) (xs : List Nat) : Prop where
  len : xs.length = n
  row : (a = none ∧ n = 0 ∧ c = 0) ∨ ∃ (b : Nat) (ys : List Value), a = some ⟨b, 0, none⟩ ∧ B ≤ b ∧ n + ys.length = c ∧ c ≤ 9223372036854775807 ∧ Row w b T (U k xs ++ ys)

theorem Rd.keep {k : IntKind} {w w' : World} {a : Option Addr} {xs : List Nat} (h : Rd k w a xs) (hb : Below w.heap.size w w') : Rd k w' a xs := by
  intro i hi
  obtain ⟨b, o, e, hc⟩ := h i hi
  exact ⟨b, o, e, by rw [hb.cell (World.block_lt_of_cell? _ _ hc)]; exact hc⟩

theorem Rd.take {k : IntKind} {w : World} {a : Option Addr} {xs : List Nat} (h : Rd k w a xs) (m : Nat) : Rd k w a (xs.take m) := by
  intro i hi
  have h2 := hi
  rw [List.length_take] at h2
  obtain ⟨b, o, e, hc⟩ := h i (by omega)
  exact ⟨b, o, e, by rw [hc, List.getElem_take]⟩

theorem Sl.keep {k : IntKind} {w w' : World} {a : Option Addr} {n c : Nat} {xs : List Nat} (h : Sl k w a n c xs) (hb : Below w.heap.size w w') : Sl k w' a n c xs :=
  ⟨h.len, h.le, h.cap, h.nil, h.spot, h.rd.keep hb⟩

theorem Sl.take {k : IntKind} {w : World} {a : Option Addr} {n c : Nat} {xs : List Nat} (h : Sl k w a n c xs) (m : Nat) (hm : m ≤ n) : Sl k w a m c (xs.take m) :=
  ⟨by rw [List.length_take, h.len]; omega, by have := h.le; omega, h.cap, h.nil, h.spot, h.rd.take m⟩

theorem Sl.at {k : IntKind} {w : World} {a : Option Addr} {n c : Nat} {xs : List Nat} (h : Sl k w a n c xs) (i : Nat) (hi : i < xs.length) :
    ∃ b o, a = some ⟨b, o, none⟩ ∧ w.cell? ⟨b, o + i, none⟩ = some (.int k (xs[i] : Nat)) := h.rd i hi

/-- the cell of a place, the address being known -/
theorem Sl.cell {k : IntKind} {w : World} {b o : Nat} {n c : Nat} {xs : List Nat} (h : Sl k w (some ⟨b, o, none⟩) n c xs) (i : Nat) (hi : i < xs.length) :
    w.cell? ⟨b, o + i, none⟩ = some (.int k (xs[i] : Nat)) := by
  obtain ⟨b', o', e, hc⟩ := h.rd i hi
  simp at e
  obtain ⟨rfl, rfl⟩ := e
  exact hc

/-- a slice that is not empty has an address -/
theorem Sl.addr {k : IntKind} {w : World} {a : Option Addr} {n c : Nat} {xs : List Nat} (h : Sl k w a n c xs) (hn : 0 < n) : ∃ b o, a = some ⟨b, o, none⟩ := by
  obtain ⟨b, o, e, _⟩ := h.rd 0 (by rw [h.len]; exact hn)
  exact ⟨b, o, e⟩

theorem Sl.addr' {k : IntKind} {w : World} {a : Option Addr} {n c : Nat} {xs : List Nat} (h : Sl k w a n c xs) (hn : 0 < c) : ∃ b o, a = some ⟨b, o, none⟩ := by
  cases a with
  | none => have := h.nil rfl; omega
  | some p =>
    obtain ⟨b, o, s⟩ := p
    have := h.spot _ rfl hn
    simp at this
    subst this
    exact ⟨b, o, rfl⟩

theorem Sl.nilSl (k : IntKind) (w : World) : Sl k w none 0 0 [] := ⟨rfl, Nat.le_refl _, by omega, fun _ => rfl, fun _ h => by simp at h, fun i h => by simp at h⟩

/-- an empty slice without capacity, at whatever address -/
theorem Sl.empty (k : IntKind) (w : World) (a : Option Addr) : Sl k w a 0 0 [] := ⟨rfl, Nat.le_refl _, by omega, fun _ => rfl, fun _ _ h => by omega, fun i h => by simp at h⟩

theorem Own.nilOwn (k : IntKind) (T B : Nat) (w : World) : Own k T B w none 0 0 [] := ⟨rfl, .inl ⟨rfl, rfl, rfl⟩⟩

theorem Own.sl {k : IntKind} {T : TypeId} {B : Nat} {w : World} {a : Option Addr} {n c : Nat} {xs : List Nat} (h : Own k T B w a n c xs) : Sl k w a n c xs := by
  rcases h.row with ⟨rfl, rfl, rfl⟩ | ⟨b, ys, rfl, hB, hl, hc, hk⟩
  · have : xs = [] := List.eq_nil_of_length_eq_zero h.len
    subst this
    exact Sl.nilSl k w
  · refine ⟨h.len, by omega, hc, fun e => by simp at e, fun p e _ => by simp at e; subst e; rfl, fun i hi => ⟨b, 0, rfl, ?_⟩⟩
    rw [Nat.zero_add, hk.cell, List.getElem?_append_left (by rw [U_length]; exact hi), U_get, List.getElem?_eq_getElem hi]; rfl

theorem Own.keep {k : IntKind} {T : TypeId} {B : Nat} {w w' : World} {a : Option Addr} {n c : Nat} {xs : List Nat} (h : Own k T B w a n c xs) (hb : Below w.heap.size w w') : Own k T B w' a n c xs := by
  refine ⟨h.len, ?_⟩
  rcases h.row with h | ⟨b, ys, e, hB, hl, hc, hk⟩
  · exact .inl h
  · exact .inr ⟨b, ys, e, hB, hl, hc, hk.keep hb⟩

theorem Own.mono {k : IntKind} {T : TypeId} {B B' : Nat} {w : World} {a : Option Addr} {n c : Nat} {xs : List Nat} (h : Own k T B w a n c xs) (hB' : B' ≤ B) : Own k T B' w a n c xs := by
  refine ⟨h.len, ?_⟩
  rcases h.row with h | ⟨b, ys, e, hB, hl, hc, hk⟩
  · exact .inl h
  · exact .inr ⟨b, ys, e, by omega, hl, hc, hk⟩

theorem Own.take {k : IntKind} {T : TypeId} {B : Nat} {w : World} {a : Option Addr} {n c : Nat} {xs : List Nat} (h : Own k T B w a n c xs) (m : Nat) (hm : m ≤ n) : Own k T B w a m c (xs.take m) := by
  refine ⟨by rw [List.length_take, h.len]; omega, ?_⟩
  rcases h.row with ⟨e, hn, hc⟩ | ⟨b, ys, e, hB, hl, hc, hk⟩
  · exact .inl ⟨e, by omega, hc⟩
  · refine .inr ⟨b, U k (xs.drop m) ++ ys, e, hB, ?_, hc, ?_⟩
    · rw [List.length_append, U_length, List.length_drop, h.len]; omega
    · rw [← List.append_assoc, ← U_append, List.take_append_drop]; exact hk

theorem Own.ofBlk {k : IntKind} {T : TypeId} {B : Nat} {w : World} {b : Nat} {xs : List Nat} (h : Blk w b k T xs) (hB : B ≤ b) (n : Nat) (hn : xs.length = n) (hc : n ≤ 9223372036854775807) :
    Own k T B w (some ⟨b, 0, none⟩) n n xs :=
  ⟨hn, .inr ⟨b, [], rfl, hB, rfl, hc, by rw [List.append_nil]; exact h⟩⟩

theorem Blk.sl {k : IntKind} {T : TypeId} {w : World} {b : Nat} {xs : List Nat} (h : Blk w b k T xs) (n : Nat) (hn : xs.length = n) (hc : n ≤ 9223372036854775807) :
    Sl k w (some ⟨b, 0, none⟩) n n xs := (Own.ofBlk (B := 0) h (Nat.zero_le _) n hn hc).sl

/-- an element and the address of a slice, at a place in it -/
theorem Sl.get {k : IntKind} {w : World} {a : Option Addr} {n c : Nat} {xs : List Nat} (h : Sl k w a n c xs) (i : Nat) (hi : i < n) :
    ∃ b o x, a = some ⟨b, o, none⟩ ∧ w.cell? ⟨b, o + i, none⟩ = some (.int k ((x : Nat) : Int)) ∧ Hid (∃ h : i < xs.length, xs[i] = x) := by
  have hl := h.len
  obtain ⟨b, o, e, hc⟩ := h.rd i (by omega)
  exact ⟨b, o, _, e, hc, by omega, rfl⟩

/-- an owned slice after a store at a place of its own -/
theorem Own.set {k : IntKind} {T : TypeId} {B : Nat} {w : World} {b : Nat} {n c : Nat} {xs : List Nat} (h : Own k T B w (some ⟨b, 0, none⟩) n c xs) (i x : Nat) (hi : i < n) :
    Own k T B (w.setCell ⟨b, i, none⟩ (.int k (x : Int))) (some ⟨b, 0, none⟩) n c (xs.set i x) := by
  refine ⟨by rw [List.length_set]; exact h.len, ?_⟩
  rcases h.row with ⟨e, _⟩ | ⟨b', ys, e, hB, hl, hc, hk⟩
  · simp at e
  · simp at e
    subst e
    refine .inr ⟨b, ys, rfl, hB, hl, hc, ?_⟩
    have := hk.set i (.int k (x : Int))
    rw [List.set_append_left _ _ (by rw [U_length, h.len]; exact hi), ← U_set] at this
    exact this

theorem Own.addr {k : IntKind} {T : TypeId} {B : Nat} {w : World} {a : Option Addr} {n c : Nat} {xs : List Nat} (h : Own k T B w a n c xs) (hn : 0 < c) :
    ∃ b, a = some ⟨b, 0, none⟩ ∧ B ≤ b ∧ b < w.heap.size ∧ ∀ i, w.frozen? ⟨b, i, none⟩ = false := by
  rcases h.row with ⟨_, _, hc⟩ | ⟨b, ys, e, hB, hl, hc, hk⟩
  · omega
  · exact ⟨b, e, hB, hk.lt, hk.frozen⟩

theorem Own.owns {k : IntKind} {T : TypeId} {B : Nat} {w : World} {a : Option Addr} {n c : Nat} {xs : List Nat} (h : Own k T B w a n c xs) :
    w.ownsRow B T 1 (.slice a n c) n (U k xs) := by
  refine ⟨by rw [U_length, h.len, Nat.mul_one], ?_⟩
  rcases h.row with ⟨rfl, rfl, rfl⟩ | ⟨b, ys, rfl, hB, hl, hc, hk⟩
  · exact .inl ⟨rfl, rfl⟩
  · refine .inr ⟨b, c, _, rfl, hB, hk, by omega, by unfold maxLen; omega, ?_, ?_⟩
    · simp [U_length, h.len]; omega
    · simp only [Nat.mul_one]
      rw [List.take_append_of_le_length (by rw [U_length, h.len]; exact Nat.le_refl _), List.take_of_length_le (by rw [U_length, h.len]; exact Nat.le_refl _)]

theorem Own.ofOwns {k : IntKind} {T : TypeId} {B : Nat} {w : World} {v : Value} {n : Nat} {xs : List Nat} (h : w.ownsRow B T 1 v n (U k xs)) :
    ∃ a c, v = .slice a n c ∧ Own k T B w a n c xs := by
  have hl : xs.length = n := by have := h.1; rw [U_length, Nat.mul_one] at this; exact this
  rcases h.2 with ⟨rfl, rfl⟩ | ⟨g, cap, cur, rfl, hB, hg, hn, hm, hs, ht⟩
  · exact ⟨none, 0, rfl, hl, .inl ⟨rfl, rfl, rfl⟩⟩
  · refine ⟨_, cap, rfl, hl, .inr ⟨g, cur.toList.drop n, rfl, hB, ?_, by unfold maxLen at hm; omega, ?_⟩⟩
    · rw [List.length_drop, Array.length_toList, hs]; omega
    · rw [Nat.mul_one] at ht
      unfold Row
      rw [← ht, List.take_append_drop]
      exact hg

theorem Blk.get {w : World} {b : Nat} {k : IntKind} {T : TypeId} {xs : List Nat} (h : Blk w b k T xs) (i : Nat) (hi : i < xs.length) :
    ∃ x : Nat, w.cell? ⟨b, i, none⟩ = some (.int k (x : Int)) ∧ w.frozen? ⟨b, i, none⟩ = false ∧ Hid (∃ h : i < xs.length, xs[i] = x) :=
  ⟨_, h.cell i hi, h.frozen i, hi, rfl⟩

theorem Blk.new1 (w : World) (k : IntKind) (T : TypeId) (x : Nat) : Blk (w.alloc (Obj.cells #[Value.int k (x : Int)] T)) w.heap.size k T [x] := by
  unfold Blk
  rw [heap_alloc_new]
  rfl

theorem Blk.new0 (w : World) (T : TypeId) : Blk (w.alloc (Obj.cells #[Value.int .u64 0] T)) w.heap.size .u64 T [0] := Blk.new1 w .u64 T 0

/-! ### results -/

theorem below_drewN (B : Nat) (w : World) (m : Nat) : Below B w (w.drewN m) := ⟨rfl, rfl, rfl, Nat.le_refl _, fun _ _ => rfl⟩

/-- one slice of its own memory is the result -/
def Gives (k : IntKind) (T : TypeId) (w : World) (xs : List Nat) (e : Ending) (w' : World) : Prop :=
  ∃ a n c, e = .returned (.slice a n c) ∧ Own k T w.heap.size w' a n c xs ∧ Below w.heap.size w w'

/-- a slice of its own memory, and a bool, are the results -/
def GivesB (k : IntKind) (T : TypeId) (w : World) (ok : Bool) (xs : List Nat) (e : Ending) (w' : World) : Prop :=
  ∃ a n c, e = .returned (.tuple #[.slice a n c, .bool ok]) ∧ Own k T w.heap.size w' a n c xs ∧ Below w.heap.size w w'

/-- a whole number (an int) is the result -/
def GivesInt (k : IntKind) (w : World) (x : Int) (e : Ending) (w' : World) : Prop :=
  e = .returned (.int k x) ∧ Below w.heap.size w w'

/-- a number is the result, the world is as it was -/
def RetN (k : IntKind) (w : World) (x : Nat) (e : Ending) (w' : World) : Prop := e = .returned (.int k (x : Int)) ∧ w = w'

def GivesBool (w : World) (x : Bool) (e : Ending) (w' : World) : Prop :=
  e = .returned (.bool x) ∧ Below w.heap.size w w'

/-! ### arithmetic of the kinds -/

theorem i64_nat (k : Nat) (h : k < 9223372036854775808) : IntKind.i64.wrap (k : Int) = (k : Int) := IntWalk.i64_in _ (by omega)

theorem u64_nat (k : Nat) : IntKind.u64.wrap (k : Int) = ((k % 18446744073709551616 : Nat) : Int) := by
  unfold IntKind.wrap; simp [IntKind.bits, IntKind.signed]

theorem nat_ne_of {m n : Nat} (h : ((m : Int) != (n : Int)) = true) : m ≠ n := by
  have : (m : Int) ≠ n := by simpa using h
  omega
theorem nat_eq_of {m n : Nat} (h : ((m : Int) != (n : Int)) = false) : m = n := by
  have : (m : Int) = n := by simpa using h
  omega
theorem bne_t {m n : Nat} (h : m ≠ n) : ((m : Int) != (n : Int)) = true := by
  have : (m : Int) ≠ n := by omega
  simpa using this
theorem bne_f {m n : Nat} (h : m = n) : ((m : Int) != (n : Int)) = false := by subst h; simp
theorem beq_t {m n : Nat} (h : m = n) : ((m : Int) == (n : Int)) = true := by subst h; simp
theorem beq_f {m n : Nat} (h : m ≠ n) : ((m : Int) == (n : Int)) = false := by
  have : (m : Int) ≠ n := by omega
  simpa using this

theorem bne0_t {m : Nat} (h : m ≠ 0) : ((m : Int) != 0) = true := bne_t (n := 0) h
theorem bne0_f {m : Nat} (h : m = 0) : ((m : Int) != 0) = false := bne_f (n := 0) h
theorem beq0_t {m : Nat} (h : m = 0) : ((m : Int) == 0) = true := beq_t (n := 0) h
theorem beq0_f {m : Nat} (h : m ≠ 0) : ((m : Int) == 0) = false := beq_f (n := 0) h

/-! ### make, append, copy -/

theorem below_alloc {B : Nat} {w : World} (o : Obj) (hB : B ≤ w.heap.size) : Below B w (w.alloc o) := (Below.refl _ _).alloc hB o

/-- make of n numbers -/
theorem wpList_mk {P : Program} {w : World} {ops : Array Oper} {rest : List Oper} {o : Oper} {a : Act} {Q : Exit → Act → World → Prop}
    (hg : o.guard = none) (l c : Operand) (t : TypeId) (hop : o.op = Op.makeSlice t l c)
    (e : TypeId) (k : IntKind) (bytes : Nat) (h1 : P.underlying t = some (.slice e)) (h2 : (P.info? e).map (fun i => (i.zero, i.size, i.bytes)) = some (some (.int k 0), 1, bytes))
    (n : Nat) {L C : Int} (hl : a.eval l = .int .i64 L) (hc : a.eval c = .int .i64 C) (hL : L = (n : Int)) (hC : C = (n : Int)) (b2 : bytes * n ≤ 281474976710656) (b3 : n ≤ 9223372036854775807)
    (hK : ∀ b w', w.heap.size ≤ b → Blk w' b k e (List.replicate n 0) → Below w.heap.size w w' → wpList P ops Q rest (a.put o.dst (.slice (some ⟨b, 0, none⟩) n n)) w') :
    wpList P ops Q (o :: rest) a w := by
  refine wpList_plain hg fun K hK' => ?_
  obtain ⟨i, hi, hz, hs, hb⟩ := info_parts h2
  subst hL
  subst hC
  have hrun := run_make (P := P) w t e i (.int k 0) h1 hi hz .i64 .i64 (n : Int) (n : Int) (by omega) (by omega) (by rw [hb]; omega) (by omega)
  unfold Oper.wp
  simp only [execOp, hop, hl, hc, Sem.run_bind, hrun, Result.andThen, Sem.run_pure]
  refine hK' _ _ ?_
  simp only [Int.toNat_natCast]
  refine hK w.heap.size _ (Nat.le_refl _) ?_ (below_alloc _ (Nat.le_refl _))
  unfold Blk
  rw [heap_alloc_new, hs, Nat.mul_one]
  congr 2
  apply Array.toList_inj.1
  rw [show (Value.int k 0).cells = #[Value.int k 0] from rfl, toList_madeCells_one]
  simp [U]

theorem run_append_none_at {P : Program} (w : World) (base : Nat) (t ty e : TypeId) (i : TypeInfo) (size : Nat) (ht : P.underlying t = some (.slice e)) (hi : P.info? e = some i)
    (v : Value) (n : Nat) (xs : List Value) (hown : w.ownsRow base e size v n xs) (p : Addr) :
    (Builtin.append_ #[t, t] ty #[v, .slice (some p) 0 0]).run P w = .ok v w := by
  rcases hown.2 with ⟨rfl, rfl⟩ | ⟨g, cap, cur, rfl, _, _, hnc, _⟩
  · simp [Builtin.append_, run_underlying ht, sizeOf, typeInfo, hi, Builtin.lenOf, Builtin.firstCells, loadCells, loadCellsFrom]
  · simp [Builtin.append_, run_underlying ht, sizeOf, typeInfo, hi, Builtin.lenOf, Builtin.firstCells, hnc, storeCells, loadCells, loadCellsFrom]

/-- append of the elements of a slice to a slice of one's own -/
theorem wpList_app {P : Program} {w : World} {ops : Array Oper} {rest : List Oper} {o : Oper} {a : Act} {Q : Exit → Act → World → Prop}
    (hg : o.guard = none) (s x : Operand) (t : TypeId) (hop : o.op = .call { callee := .builtin .append, args := #[s, x], argTypes := #[t, t] })
    (e : TypeId) (k : IntKind) (bytes : Nat) (h1 : P.underlying t = some (.slice e)) (h2 : (P.info? e).map (fun i => (i.zero, i.size, i.bytes)) = some (some (.int k 0), 1, bytes))
    (B : Nat) (a1 : Option Addr) (n1 c1 : Nat) (xs : List Nat) (hs : a.eval s = .slice a1 n1 c1) (hown : Own k e B w a1 n1 c1 xs)
    (a2 : Option Addr) (n2 c2 : Nat) (ys : List Nat) (hx : a.eval x = .slice a2 n2 c2) (hsl : Sl k w a2 n2 c2 ys)
    (hbytes : (n1 + n2) * bytes ≤ 140737488355328) (h63 : n1 + n2 ≤ 9223372036854775807) (hB : B ≤ w.heap.size)
    (hK : ∀ a3 c3 w', Own k e B w' a3 (n1 + n2) c3 (xs ++ ys) → Below B w w' → wpList P ops Q rest (a.put o.dst (.slice a3 (n1 + n2) c3)) w') :
    wpList P ops Q (o :: rest) a w := by
  obtain ⟨i, hi, hz, hsz, hb⟩ := info_parts h2
  have below : ∀ (w' : World), w.grownBy w' (Value.slice a1 n1 c1).ownBlock → Below B w w' := by
    intro w' hg
    refine (Below.refl B w).grown hg hB ?_
    intro k' hk
    exact (hown.owns.lt k' hk).1
  cases a2 with
  | none =>
    obtain rfl : c2 = 0 := hsl.nil rfl
    obtain rfl : n2 = 0 := by have := hsl.le; omega
    obtain rfl : ys = [] := List.eq_nil_of_length_eq_zero hsl.len
    refine wpList_plain hg fun K hK' => ?_
    have hrun := run_append_owned_none (P := P) w B t o.type e i 1 h1 hi _ n1 _ hown.owns
    unfold Oper.wp
    simp [execOp, hop, resolve, invoke, builtin, hs, hx, hrun, Result.andThen]
    refine hK' _ _ (hK a1 c1 w ?_ (Below.refl _ _))
    rw [List.append_nil]
    exact hown
  | some p =>
    by_cases hc0 : c2 = 0
    · subst hc0
      obtain rfl : n2 = 0 := by have := hsl.le; omega
      obtain rfl : ys = [] := List.eq_nil_of_length_eq_zero hsl.len
      refine wpList_plain hg fun K hK' => ?_
      have hrun := run_append_none_at (P := P) w B t o.type e i 1 h1 hi _ n1 _ hown.owns p
      unfold Oper.wp
      simp [execOp, hop, resolve, invoke, builtin, hs, hx, hrun, Result.andThen]
      refine hK' _ _ (hK a1 c1 w ?_ (Below.refl _ _))
      rw [List.append_nil]
      exact hown
    obtain ⟨b, q, sp⟩ := p
    have hsp := hsl.spot _ rfl (by omega)
    simp at hsp
    subst hsp
    refine wpList_append_own w hg s x t hop B e i (.int k 0) 1 bytes h1 hi hz hsz hb rfl (by omega) _ n1 (U k xs) hs hown.owns ⟨b, q, none⟩ n2 c2 (U k ys) hx
      (by rw [U_length, hsl.len, Nat.mul_one]) ?_ (U_oneCell k ys) (by unfold maxLen; omega) hbytes hB ?_
    · intro j u hu
      rw [Addr.add_lit]
      rw [U_get] at hu
      obtain ⟨y, hy, rfl⟩ := Option.map_eq_some_iff.1 hu
      obtain ⟨hj, rfl⟩ := List.getElem?_eq_some_iff.1 hy
      exact hsl.cell j hj
    · intro v' w' hr hgr _
      rw [← U_append] at hr
      obtain ⟨a3, c3, rfl, ho⟩ := Own.ofOwns hr
      exact hK a3 c3 w' ho (below w' hgr)

end Go.Proofs.YtaeamlldocbeeaaDoor
