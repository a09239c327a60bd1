/- Pure laws of SHA-256 over parts: what was taken in and what waits, the hash of the whole, HMAC. -/
import Derived.Test.YtaeamlldocbeeaaDoorHashH
namespace Go.Proofs.YtaeamlldocbeeaaDoor
open Go.RowKit Go.Shelf Num

/-- what was taken in of all that was written, and what waits -/
def absH (all : List Nat) : List Nat := taken H256 all (all.length / 64)
def absX (all : List Nat) : List Nat := all.drop (64 * (all.length / 64))

/-- the hash of a message -/
def sha (b : List Nat) : List Nat := wordsS (absH (b ++ padS (b.length % 64) b.length))

theorem chunk_left {a b : List Nat} {k : Nat} (h : 64 * (k + 1) ≤ a.length) : chunk (a ++ b) k = chunk a k := by
  unfold chunk
  rw [List.drop_append_of_le_length (by omega), List.take_append_of_le_length (by rw [List.length_drop]; omega)]

theorem taken_left (H : List Nat) {a b : List Nat} : ∀ {k : Nat}, 64 * k ≤ a.length → taken H (a ++ b) k = taken H a k
  | 0, _ => rfl
  | k + 1, h => by rw [taken, taken, taken_left H (by omega), chunk_left h]

theorem chunk_drop (a : List Nat) (k j : Nat) : chunk (a.drop (64 * k)) j = chunk a (k + j) := by
  unfold chunk
  rw [List.drop_drop, Nat.mul_add]

theorem taken_drop (H a : List Nat) (k : Nat) : ∀ j, taken (taken H a k) (a.drop (64 * k)) j = taken H a (k + j)
  | 0 => rfl
  | j + 1 => by rw [taken, taken_drop H a k j, chunk_drop]; rfl

theorem absX_len (all : List Nat) : (absX all).length = all.length % 64 := by
  unfold absX
  rw [List.length_drop]
  omega

theorem absX_len_app (a ys : List Nat) : a.length / 64 + (absX a ++ ys).length / 64 = (a ++ ys).length / 64 := by
  rw [List.length_append, absX_len, List.length_append]
  omega

theorem absX_app (a ys : List Nat) : absX a ++ ys = (a ++ ys).drop (64 * (a.length / 64)) := by
  unfold absX
  rw [List.drop_append_of_le_length (by omega)]

/-- more is written behind -/
theorem abs_more (a ys : List Nat) : taken (absH a) (absX a ++ ys) ((absX a ++ ys).length / 64) = absH (a ++ ys) := by
  unfold absH
  rw [← taken_left H256 (a := a) (b := ys) (k := a.length / 64) (by omega), absX_app, taken_drop, ← absX_app, absX_len_app]

theorem abs_moreX (a ys : List Nat) : (absX a ++ ys).drop (64 * ((absX a ++ ys).length / 64)) = absX (a ++ ys) := by
  have h := absX_len_app a ys
  rw [absX_app] at h ⊢
  rw [List.drop_drop]
  unfold absX
  rw [← h]
  congr 1
  omega

theorem sum_abs (a : List Nat) : sumS (absH a) (absX a) a.length = sha a := by
  unfold sumS sha
  rw [absX_len, abs_more]

theorem absH_len (a : List Nat) : (absH a).length = 8 := taken_len rfl _

theorem H256_dg : Dg 4294967296 H256 := by
  intro x hx
  simp only [H256, List.mem_cons, List.not_mem_nil, or_false] at hx
  omega

theorem absH_dg (a : List Nat) : Dg 4294967296 (absH a) := taken_dg H256_dg _

theorem b32_len (x : Nat) : (b32 x).length = 4 := rfl
theorem b32_dg (x : Nat) : Dg 256 (b32 x) := by
  intro y hy
  simp only [b32, List.mem_cons, List.not_mem_nil, or_false] at hy
  omega

theorem wordsS_dg (H : List Nat) : Dg 256 (wordsS H) := by
  intro x hx
  unfold wordsS at hx
  obtain ⟨l, hl, hx⟩ := List.mem_flatten.1 hx
  obtain ⟨y, _, rfl⟩ := List.mem_map.1 hl
  exact b32_dg y x hx

theorem wordsS_len (H : List Nat) : (wordsS H).length = 4 * H.length := by
  induction H with
  | nil => rfl
  | cons a r ih =>
    have : wordsS (a :: r) = b32 a ++ wordsS r := rfl
    rw [this, List.length_append, ih, b32_len, List.length_cons]
    omega

theorem sha_dg (b : List Nat) : Dg 256 (sha b) := wordsS_dg _
theorem sha_len (b : List Nat) : (sha b).length = 32 := by
  unfold sha
  rw [wordsS_len, absH_len]

/-- a hash that has taken in all that was written to it -/
def HA (w : World) (hb : Nat) (all : List Nat) (a : Option Addr) (n c : Nat) : Prop := HSt w hb (absH all) (absX all) all.length a n c

theorem HA.keep {w w' : World} {hb n c : Nat} {all : List Nat} {a : Option Addr} (h : HA w hb all a n c) (hb' : Below w.heap.size w w') : HA w' hb all a n c :=
  ⟨Row.keep h.row hb', h.own.keep hb', h.hH, h.hHd, h.hx⟩

theorem HA.small {w : World} {hb n c : Nat} {all : List Nat} {a : Option Addr} (h : HA w hb all a n c) : n < 64 := by
  have := h.own.len
  rw [absX_len] at this
  omega

theorem Own.only2 {k : IntKind} {T : TypeId} {B : Nat} {w w' : World} {a : Option Addr} {n c g1 g2 : Nat} {xs : List Nat} (h : Own k T B w a n c xs) (ho : Only2 w w' g1 g2) (hne : ∀ p, a = some p → p.block ≠ g1 ∧ p.block ≠ g2) : Own k T B w' a n c xs := by
  refine ⟨h.len, ?_⟩
  rcases h.row with h1 | ⟨b', ys, e', h2, h3, h4, hk⟩
  · exact .inl h1
  · have hn := hne _ e'
    exact .inr ⟨b', ys, e', h2, h3, h4, (ho.same b' (Row.lt hk) hn.1 hn.2).trans hk⟩

/-- the other hash stays -/
theorem HA.only2 {w w' : World} {hb n c g1 g2 : Nat} {all : List Nat} {a : Option Addr} (h : HA w hb all a n c) (ho : Only2 w w' g1 g2) (h1 : hb ≠ g1) (h2 : hb ≠ g2) (hne : ∀ p, a = some p → p.block ≠ g1 ∧ p.block ≠ g2) : HA w' hb all a n c :=
  ⟨(ho.same hb (Row.lt h.row) h1 h2).trans h.row, h.own.only2 ho hne, h.hH, h.hHd, h.hx⟩

theorem KTab.only2 {w w' : World} {g1 g2 : Nat} (h : KTab w) (ho : Only2 w w' g1 g2) (h1 : 4 ≤ g1) (h2 : 4 ≤ g2) : KTab w' := by
  intro i hi
  have h3 := ho.same 3 h.lt (by omega) (by omega)
  rw [show (3 : Nat) = 3 from rfl]
  rw [World.cell?_of_block (a := ⟨3, i, none⟩) h3]
  exact h i hi

theorem HA.grown {w w' : World} {hb n c b : Nat} {all : List Nat} {a : Option Addr} (h : HA w hb all a n c) (hg : w.grownBy w' (some b)) (h1 : hb ≠ b) (hne : ∀ p, a = some p → p.block ≠ b) : HA w' hb all a n c :=
  ⟨Row.grownR h.row hg (by simpa using h1), h.own.kept' hg hne, h.hH, h.hHd, h.hx⟩

theorem absH_nil : absH [] = H256 := rfl
theorem absX_nil : absX [] = [] := rfl

/-- what is left behind a Write -/
def GivesWr (w : World) (hb : Nat) (all : List Nat) (a : Option Addr) (e : Ending) (w' : World) : Prop :=
  (∃ v, e = .returned v) ∧ ∃ a' n' c', HA w' hb all a' n' c' ∧ (∀ p, a' = some p → w.heap.size ≤ p.block) ∧ Only2 w w' hb ((a.map (·.block)).getD hb)

theorem write_abs {hb nw cw ny cy : Nat} {a ay : Option Addr} {all ys : List Nat} {w : World} (h : HA w hb all a nw cw) (hy : Sl .u8 w ay ny cy ys) (hd : Dg 256 ys) (hk : KTab w) (hn : all.length + ny < 70368744177664) :
    Calls Tryd.prog 68 #[.pointer (some ⟨hb, 0, none⟩), .slice ay ny cy] w (GivesWr w hb (all ++ ys) a) := by
  have hs := h.own.len
  rw [absX_len] at hs
  refine (write_any h hy hd hk hn (by omega)).mono ?_
  rintro e w' ⟨h1, a', n', c', h2, h3, h4⟩
  refine ⟨h1, a', n', c', ?_, h3, h4⟩
  rw [abs_more, abs_moreX, ← hy.len, ← List.length_append] at h2
  exact h2

theorem hnew_abs (w : World) : Calls Tryd.prog 67 #[.int .i64 3] w fun e w' => ∃ hb, e = .returned (.pointer (some ⟨hb, 0, none⟩)) ∧ HA w' hb [] none 0 0 ∧ w.heap.size ≤ hb ∧ Below w.heap.size w w' := by
  refine (hnew_any w).mono ?_
  rintro e w' ⟨hb, h1, h2, h3, h4⟩
  exact ⟨hb, h1, ⟨h2, Own.nilOwn _ _ _ _, rfl, H256_dg, Dg.nil⟩, h3, h4⟩

theorem copy_abs {hb nw cw : Nat} {a : Option Addr} {all : List Nat} {w : World} (h : HA w hb all a nw cw) (hk : KTab w) :
    Calls Tryd.prog 69 #[.pointer (some ⟨hb, 0, none⟩)] w fun e w' => ∃ hb a n' c, e = .returned (.pointer (some ⟨hb, 0, none⟩)) ∧ HA w' hb all a n' c ∧ w.heap.size ≤ hb ∧ (∀ p, a = some p → w.heap.size ≤ p.block) ∧ Below w.heap.size w w' :=
  copy_any h hk (by have := h.small; omega)

theorem sum_abs_any {hb nw cw : Nat} {a : Option Addr} {all : List Nat} {w : World} (h : HA w hb all a nw cw) (hk : KTab w) (hn : all.length < 1099511627776) :
    Calls Tryd.prog 70 #[.pointer (some ⟨hb, 0, none⟩)] w fun e w' => ∃ a' c', e = .returned (.slice a' 32 c') ∧ Own .u8 5 w.heap.size w' a' 32 c' (sha all) ∧ Below w.heap.size w w' := by
  refine (sum_any h hk h.small hn).mono ?_
  rintro e w' ⟨a', c', h1, h2, h3⟩
  rw [sum_abs] at h2
  exact ⟨a', c', h1, h2, h3⟩

end Go.Proofs.YtaeamlldocbeeaaDoor
