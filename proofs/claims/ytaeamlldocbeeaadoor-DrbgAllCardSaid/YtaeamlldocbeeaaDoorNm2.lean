/- More contracts in short words: shifts, division and powers of two of the reference; boxes. -/
import Derived.Test.YtaeamlldocbeeaaDoorNm
import Derived.Test.YtaeamlldocbeeaaDoorRefC
import Derived.Test.YtaeamlldocbeeaaDoorRef11
namespace Go.Proofs.YtaeamlldocbeeaaDoor
open Go.RowKit Num

theorem newRow (w : World) (T : TypeId) (v : Value) : Row (w.alloc (Obj.cells #[v] T)) w.heap.size T [v] := by
  unfold Row
  rw [heap_alloc_new]

theorem Row.cell0 {w : World} {b : Nat} {T : TypeId} {v : Value} (h : Row w b T [v]) : w.cell? ⟨b, 0, none⟩ = some v := by
  rw [h.cell]; rfl

theorem Row.frozen0 {w : World} {b : Nat} {T : TypeId} {v : Value} (h : Row w b T [v]) : w.frozen? ⟨b, 0, none⟩ = false := h.frozen 0

theorem Row.set0 {w : World} {b : Nat} {T : TypeId} {v : Value} (h : Row w b T [v]) (v' : Value) : Row (w.setCell ⟨b, 0, none⟩ v') b T [v'] := h.set 0 v'

theorem Row.alloc {w : World} {b : Nat} {T : TypeId} {vs : List Value} (h : Row w b T vs) (o : Obj) : Row (w.alloc o) b T vs := h.keep (below_alloc o (Nat.le_refl _))

theorem Nm.alloc {w : World} {a : Option Addr} {n c m v : Nat} (h : Nm w a n c m v) (o : Obj) : Nm (w.alloc o) a n c m v := h.keep (below_alloc o (Nat.le_refl _))

theorem Rf.alloc {w : World} {a : Option Addr} {n c m v : Nat} (h : Rf w a n c m v) (o : Obj) : Rf (w.alloc o) a n c m v := h.keep (below_alloc o (Nat.le_refl _))

theorem Cn.alloc {w : World} {a : Option Addr} {n c m v : Nat} (h : Cn w a n c m v) (o : Obj) : Cn (w.alloc o) a n c m v := h.keep (below_alloc o (Nat.le_refl _))

theorem Sl.alloc {k : IntKind} {w : World} {a : Option Addr} {n c : Nat} {xs : List Nat} (h : Sl k w a n c xs) (o : Obj) : Sl k (w.alloc o) a n c xs := h.keep (below_alloc o (Nat.le_refl _))

theorem BoxSl.keep {w w' : World} {Bs v : Nat} (h : BoxSl w Bs v) (hb : Below w.heap.size w w') : BoxSl w' Bs v := h.below hb

theorem BoxSl.alloc {w : World} {Bs v : Nat} (h : BoxSl w Bs v) (o : Obj) : BoxSl (w.alloc o) Bs v := h.below (below_alloc o (Nat.le_refl _))

/-- two numbers of the reference are the results -/
def GivesF2 (w : World) (m u k v : Nat) (e : Ending) (w' : World) : Prop :=
  ∃ a1 n1 c1 a2 n2 c2, e = .returned (.tuple #[.slice a1 n1 c1, .slice a2 n2 c2]) ∧ Rf w' a1 n1 c1 m u ∧ Rf w' a2 n2 c2 k v ∧ Below w.heap.size w w'

section
variable {w : World} {a1 a2 : Option Addr} {n1 c1 n2 c2 m k u v : Nat}

theorem rquo_nm (h : Rf w a1 n1 c1 m u) (h' : Rf w a2 n2 c2 k v) (hv : 0 < v) : Calls Tryd.prog 50 #[.slice a1 n1 c1, .slice a2 n2 c2] w (GivesF2 w m (u / v) k (u % v)) := by
  have hn := h.sl.short (by omega) h.lt h.hm
  refine (rquo_any h.sl h'.sl (by omega) hv).mono ?_
  rintro _ _ ⟨a1, n1, c1, a2, n2, c2, rfl, h1, h2, hb⟩
  exact ⟨a1, n1, c1, a2, n2, c2, rfl, ⟨h1, h.lt.le (Nat.div_le_self _ _), h.hm⟩, ⟨h2, h'.lt.le (Nat.le_of_lt (Nat.mod_lt _ hv)), h'.hm⟩, hb⟩

theorem Lt2.two (j m : Nat) (h : j < m) : Lt2 m (2 ^ j) := ⟨Nat.pow_lt_pow_right (by omega) h⟩

theorem rbits_nm (h : Rf w a1 n1 c1 m v) : Calls Tryd.prog 29 #[.slice a1 n1 c1] w (RetN .i64 w (bitLen v)) := rbits_any h.sl h.hn

theorem shl_nm (h : Nm w a1 n1 c1 m v) (j : Nat) (hj : j ≤ 5000) (hs : m + 5001 ≤ 1000000) : Calls Tryd.prog 45 #[.slice a1 n1 c1, .int .i64 (j : Int)] w (GivesC w (m + 5001) (v * 2 ^ j)) := by
  obtain ⟨xs, h1, h2, h3⟩ := h.ex
  have := h.hn
  refine (shl_any h1 h2 (by omega) (j : Int)).mono fun _ _ hg => ?_
  rw [if_pos (by omega), h3, Int.toNat_natCast] at hg
  exact hg.c (h.lt.mul (Lt2.two j 5001 (by omega))) hs

/-- a slice, whatever it is -/
def GivesAny (w : World) (e : Ending) (w' : World) : Prop := ∃ a n c, e = .returned (.slice a n c) ∧ Below w.heap.size w w'

/-- a slice without an element -/
def GivesNone (w : World) (e : Ending) (w' : World) : Prop := ∃ a c, e = .returned (.slice a 0 c) ∧ Below w.heap.size w w'

theorem shl_some (h : Nm w a1 n1 c1 m v) (j : Int) : Calls Tryd.prog 45 #[.slice a1 n1 c1, .int .i64 j] w (GivesAny w) := by
  obtain ⟨xs, h1, h2, h3⟩ := h.ex
  have := h.hn
  exact (shl_any h1 h2 (by omega) j).mono fun _ _ ⟨a, n, c, he, _, hb⟩ => ⟨a, n, c, he, hb⟩

theorem shl_none (h : Nm w a1 n1 c1 m v) (j : Int) (hj : j < 0 ∨ 65536 < j) : Calls Tryd.prog 45 #[.slice a1 n1 c1, .int .i64 j] w (GivesNone w) := by
  obtain ⟨xs, h1, h2, h3⟩ := h.ex
  have := h.hn
  refine (shl_any h1 h2 (by omega) j).mono ?_
  rintro _ _ ⟨a, n, c, rfl, ho, hb⟩
  rw [if_neg (by omega)] at ho
  obtain rfl : n = 0 := ho.len.symm
  exact ⟨a, c, rfl, hb⟩

theorem shr_nm (h : Nm w a1 n1 c1 m v) (j : Nat) (hj : j ≤ 5000) : Calls Tryd.prog 49 #[.slice a1 n1 c1, .int .i64 (j : Int)] w (GivesC w m (v / 2 ^ j)) := by
  obtain ⟨xs, h1, h2, h3⟩ := h.ex
  have := h.hn
  refine (shr_any h1 h2 (by omega) (j : Int) (by omega)).mono fun _ _ hg => ?_
  rw [if_pos (by omega), h3, Int.toNat_natCast] at hg
  exact hg.c (h.lt.le (Nat.div_le_self _ _)) h.hm

theorem shr_some (h : Nm w a1 n1 c1 m v) (j : Int) (hj : j < 9223372036854775808) : Calls Tryd.prog 49 #[.slice a1 n1 c1, .int .i64 j] w (GivesAny w) := by
  obtain ⟨xs, h1, h2, h3⟩ := h.ex
  have := h.hn
  exact (shr_any h1 h2 (by omega) j hj).mono fun _ _ ⟨a, n, c, he, _, hb⟩ => ⟨a, n, c, he, hb⟩

theorem shr_none (h : Nm w a1 n1 c1 m v) (j : Int) (hj : j < 0) : Calls Tryd.prog 49 #[.slice a1 n1 c1, .int .i64 j] w (GivesNone w) := by
  obtain ⟨xs, h1, h2, h3⟩ := h.ex
  have := h.hn
  refine (shr_any h1 h2 (by omega) j (by omega)).mono ?_
  rintro _ _ ⟨a, n, c, rfl, ho, hb⟩
  rw [if_neg (by omega)] at ho
  obtain rfl : n = 0 := ho.len.symm
  exact ⟨a, c, rfl, hb⟩

/-- what a shift up by any count answers -/
structure UpOk (w : World) (a : Option Addr) (n c A : Nat) (m : Int) : Prop where
  yes : ∀ j : Nat, m = (j : Int) → j ≤ 5000 → Cn w a n c 6281 (A * 2 ^ j)
  no : m < 0 ∨ 65536 < m → n = 0

/-- what a shift down by any count answers -/
structure DownOk (w : World) (a : Option Addr) (n c A : Nat) (m : Int) : Prop where
  yes : ∀ j : Nat, m = (j : Int) → j ≤ 5000 → Cn w a n c 1280 (A / 2 ^ j)
  no : m < 0 → n = 0

theorem UpOk.keep {w w' : World} {a : Option Addr} {n c A : Nat} {m : Int} (h : UpOk w a n c A m) (hb : Below w.heap.size w w') : UpOk w' a n c A m :=
  ⟨fun j e hj => (h.yes j e hj).keep hb, h.no⟩

theorem DownOk.keep {w w' : World} {a : Option Addr} {n c A : Nat} {m : Int} (h : DownOk w a n c A m) (hb : Below w.heap.size w w') : DownOk w' a n c A m :=
  ⟨fun j e hj => (h.yes j e hj).keep hb, h.no⟩

theorem shl_any_nm (h : Nm w a1 n1 c1 1280 v) (m : Int) : Calls Tryd.prog 45 #[.slice a1 n1 c1, .int .i64 m] w fun e w' =>
    ∃ a n c, e = .returned (.slice a n c) ∧ UpOk w' a n c v m ∧ Below w.heap.size w w' := by
  by_cases g : m < 0 ∨ 65536 < m
  · refine (shl_none h m g).mono ?_
    rintro _ _ ⟨a, c, rfl, hb⟩
    exact ⟨a, 0, c, rfl, ⟨fun j e hj => by omega, fun _ => rfl⟩, hb⟩
  · by_cases g2 : m ≤ 5000
    · obtain ⟨j, rfl⟩ := Int.eq_ofNat_of_zero_le (show 0 ≤ m by omega)
      refine (shl_nm h j (by omega) (by omega)).mono ?_
      rintro _ _ ⟨a, n, c, rfl, hc, hb⟩
      refine ⟨a, n, c, rfl, ⟨fun i e _ => ?_, fun h => by omega⟩, hb⟩
      obtain rfl : j = i := by omega
      exact hc
    · refine (shl_some h m).mono ?_
      rintro _ _ ⟨a, n, c, rfl, hb⟩
      exact ⟨a, n, c, rfl, ⟨fun j e hj => by omega, fun h => by omega⟩, hb⟩

theorem shr_any_nm (h : Nm w a1 n1 c1 1280 v) (m : Int) (hm : m < 9223372036854775808) : Calls Tryd.prog 49 #[.slice a1 n1 c1, .int .i64 m] w fun e w' =>
    ∃ a n c, e = .returned (.slice a n c) ∧ DownOk w' a n c v m ∧ Below w.heap.size w w' := by
  by_cases g : m < 0
  · refine (shr_none h m g).mono ?_
    rintro _ _ ⟨a, c, rfl, hb⟩
    exact ⟨a, 0, c, rfl, ⟨fun j e hj => by omega, fun _ => rfl⟩, hb⟩
  · by_cases g2 : m ≤ 5000
    · obtain ⟨j, rfl⟩ := Int.eq_ofNat_of_zero_le (show 0 ≤ m by omega)
      refine (shr_nm h j (by omega)).mono ?_
      rintro _ _ ⟨a, n, c, rfl, hc, hb⟩
      refine ⟨a, n, c, rfl, ⟨fun i e _ => ?_, fun h => by omega⟩, hb⟩
      obtain rfl : j = i := by omega
      exact hc
    · refine (shr_some h m hm).mono ?_
      rintro _ _ ⟨a, n, c, rfl, hb⟩
      exact ⟨a, n, c, rfl, ⟨fun j e hj => by omega, fun h => by omega⟩, hb⟩

end

end Go.Proofs.YtaeamlldocbeeaaDoor
