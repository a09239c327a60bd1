/- The contracts of limb and of its reference once more, in short words: a slice that reads a number, how many bits it has at most. -/
import Derived.Test.YtaeamlldocbeeaaDoorLawA
namespace Go.Proofs.YtaeamlldocbeeaaDoor
open Go.RowKit Num

/-- the slice reads the number v, of at most m bits -/
structure Nm (w : World) (a : Option Addr) (n c m v : Nat) : Prop where
  ex : ∃ xs, Sl .u64 w a n c xs ∧ Dg 18446744073709551616 xs ∧ val 18446744073709551616 xs = v
  lt : Lt2 m v
  hm : m ≤ 1000000
  hn : n ≤ 1000000

/-- the slice reads the number v in normal form -/
structure Cn (w : World) (a : Option Addr) (n c m v : Nat) : Prop where
  sl : Sl .u64 w a n c (dig 18446744073709551616 v)
  lt : Lt2 m v
  hm : m ≤ 1000000

/-- the slice is the reference's number v -/
structure Rf (w : World) (a : Option Addr) (n c m v : Nat) : Prop where
  sl : Sl .u64 w a n c (dig 4294967296 v)
  lt : Lt2 m v
  hm : m ≤ 1000000

theorem Nm.keep {w w' : World} {a : Option Addr} {n c m v : Nat} (h : Nm w a n c m v) (hb : Below w.heap.size w w') : Nm w' a n c m v := by
  obtain ⟨xs, h1, h2, h3⟩ := h.ex
  exact ⟨⟨xs, h1.keep hb, h2, h3⟩, h.lt, h.hm, h.hn⟩

theorem Cn.keep {w w' : World} {a : Option Addr} {n c m v : Nat} (h : Cn w a n c m v) (hb : Below w.heap.size w w') : Cn w' a n c m v := ⟨h.sl.keep hb, h.lt, h.hm⟩

theorem Rf.keep {w w' : World} {a : Option Addr} {n c m v : Nat} (h : Rf w a n c m v) (hb : Below w.heap.size w w') : Rf w' a n c m v := ⟨h.sl.keep hb, h.lt, h.hm⟩

theorem Cn.nm {w : World} {a : Option Addr} {n c m v : Nat} (h : Cn w a n c m v) : Nm w a n c m v :=
  ⟨⟨_, h.sl, dgW v, valW v⟩, h.lt, h.hm, h.sl.short (by omega) h.lt h.hm⟩

theorem Rf.hn {w : World} {a : Option Addr} {n c m v : Nat} (h : Rf w a n c m v) : n ≤ 1099511627776 := h.sl.shortV h.lt h.hm

theorem Cn.hn {w : World} {a : Option Addr} {n c m v : Nat} (h : Cn w a n c m v) : n ≤ 1099511627776 := h.sl.shortW h.lt h.hm

/-- a number in normal form is the result -/
def GivesC (w : World) (m v : Nat) (e : Ending) (w' : World) : Prop :=
  ∃ a n c, e = .returned (.slice a n c) ∧ Cn w' a n c m v ∧ Below w.heap.size w w'

/-- a number of the reference is the result -/
def GivesF (w : World) (m v : Nat) (e : Ending) (w' : World) : Prop :=
  ∃ a n c, e = .returned (.slice a n c) ∧ Rf w' a n c m v ∧ Below w.heap.size w w'

theorem Gives.c {T : TypeId} {w : World} {m v : Nat} {e : Ending} {w' : World} (h : Gives .u64 T w (dig 18446744073709551616 v) e w') (hl : Lt2 m v) (hm : m ≤ 1000000) : GivesC w m v e w' := by
  obtain ⟨a, n, c, rfl, ho, hb⟩ := h
  exact ⟨a, n, c, rfl, ⟨ho.sl, hl, hm⟩, hb⟩

theorem GivesR.f {w : World} {m v : Nat} {e : Ending} {w' : World} (h : GivesR w v e w') (hl : Lt2 m v) (hm : m ≤ 1000000) : GivesF w m v e w' := by
  obtain ⟨a, n, c, rfl, ho, hb⟩ := h
  exact ⟨a, n, c, rfl, ⟨ho, hl, hm⟩, hb⟩

section
variable {w : World} {a1 a2 : Option Addr} {n1 c1 n2 c2 m k u v : Nat}

theorem from_nm (h : Nm w a1 n1 c1 m v) : Calls Tryd.prog 12 #[.slice a1 n1 c1] w (GivesF w m v) := by
  obtain ⟨xs, h1, h2, h3⟩ := h.ex
  have := h.hn
  refine (from_any h1 h2 (by omega)).mono fun _ _ hg => GivesR.f (by rw [h3] at hg; exact hg) h.lt h.hm

theorem cmp_nm (h : Nm w a1 n1 c1 m u) (h' : Nm w a2 n2 c2 k v) : Calls Tryd.prog 40 #[.slice a1 n1 c1, .slice a2 n2 c2] w (GivesInt .i64 w (cmpI u v)) := by
  obtain ⟨xs, h1, h2, h3⟩ := h.ex
  obtain ⟨ys, k1, k2, k3⟩ := h'.ex
  have := h.hn
  have := cmp_any h1 k1 h2 k2 (by omega)
  rwa [h3, k3] at this

/-- a number and a bool are the results -/
def GivesCB (w : World) (ok : Bool) (m v : Nat) (e : Ending) (w' : World) : Prop :=
  ∃ a n c, e = .returned (.tuple #[.slice a n c, .bool ok]) ∧ Cn w' a n c m v ∧ Below w.heap.size w w'

/-- two numbers and a bool are the results -/
def GivesC2 (w : World) (ok : Bool) (m u k v : Nat) (e : Ending) (w' : World) : Prop :=
  ∃ a1 n1 c1 a2 n2 c2, e = .returned (.tuple #[.slice a1 n1 c1, .slice a2 n2 c2, .bool ok]) ∧ Cn w' a1 n1 c1 m u ∧ Cn w' a2 n2 c2 k v ∧ Below w.heap.size w w'

theorem quo_nm (h : Nm w a1 n1 c1 m u) (h' : Nm w a2 n2 c2 k v) (hv : 0 < v) : Calls Tryd.prog 25 #[.slice a1 n1 c1, .slice a2 n2 c2] w (GivesC2 w true m (u / v) k (u % v)) := by
  obtain ⟨xs, h1, h2, h3⟩ := h.ex
  obtain ⟨ys, k1, k2, k3⟩ := h'.ex
  have := h.hn
  refine (quo_any h1 k1 h2 k2 (by omega) (by rw [k3]; exact hv)).mono ?_
  rintro _ _ ⟨a1, n1, c1, a2, n2, c2, rfl, ho1, ho2, hb⟩
  rw [h3, k3] at ho1 ho2
  exact ⟨a1, n1, c1, a2, n2, c2, rfl, ⟨ho1.sl, h.lt.le (Nat.div_le_self _ _), h.hm⟩, ⟨ho2.sl, h'.lt.le (Nat.le_of_lt (Nat.mod_lt _ hv)), h'.hm⟩, hb⟩

theorem quo0_nm (h : Nm w a1 n1 c1 m u) (h' : Nm w a2 n2 c2 k 0) : Calls Tryd.prog 25 #[.slice a1 n1 c1, .slice a2 n2 c2] w (GivesC2 w false 0 0 0 0) := by
  obtain ⟨xs, h1, h2, h3⟩ := h.ex
  obtain ⟨ys, k1, k2, k3⟩ := h'.ex
  refine (quo_zero h1 k1 h2 k2 k3).mono ?_
  rintro _ _ ⟨a1, n1, c1, a2, n2, c2, rfl, ho1, ho2, hb⟩
  exact ⟨a1, n1, c1, a2, n2, c2, rfl, ⟨by rw [dig_zero]; exact ho1.sl, ⟨Nat.two_pow_pos 0⟩, by omega⟩, ⟨by rw [dig_zero]; exact ho2.sl, ⟨Nat.two_pow_pos 0⟩, by omega⟩, hb⟩

theorem rcmp_nm (h : Rf w a1 n1 c1 m u) (h' : Rf w a2 n2 c2 k v) : Calls Tryd.prog 61 #[.slice a1 n1 c1, .slice a2 n2 c2] w (GivesInt .i64 w (cmpI u v)) :=
  rcmp_any h.sl h'.sl h.hn

theorem is_nm (h : Cn w a1 n1 c1 m v) (h' : Rf w a2 n2 c2 k v) : Calls Tryd.prog 13 #[.slice a1 n1 c1, .slice a2 n2 c2] w (GivesBool w true) :=
  is_yes h.sl h'.sl h.lt h.hm

theorem bits_nm (h : Nm w a1 n1 c1 m v) : Calls Tryd.prog 24 #[.slice a1 n1 c1] w (RetN .i64 w (bitLen v)) := by
  obtain ⟨xs, h1, h2, h3⟩ := h.ex
  have := h.hn
  have := bits_any h1 h2 (by omega)
  rwa [h3] at this

end

theorem cmpI_lt {u v : Nat} (h : u < v) : cmpI u v = -1 := by unfold cmpI; rw [if_pos h]

theorem cmpI_self (u : Nat) : cmpI u u = 0 := by unfold cmpI; rw [if_neg (by omega), if_pos rfl]

theorem cmpI_ge {u v : Nat} (h : v ≤ u) : decide (cmpI u v < 0) = false := by rw [cmp_less]; exact decide_eq_false (by omega)

theorem cmpI_iff0 {u v : Nat} : cmpI u v = 0 ↔ u = v := by
  unfold cmpI
  by_cases h1 : u < v
  · rw [if_pos h1]; omega
  · rw [if_neg h1]
    by_cases h2 : u = v
    · rw [if_pos h2]; simp [h2]
    · rw [if_neg h2]; simp [h2]

end Go.Proofs.YtaeamlldocbeeaaDoor
