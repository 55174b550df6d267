/- Words shared by all texts of this seat: slices that read as lists; owned rows. Plain definitions and lemmas: no program. -/
import Derived.WalkKit
import Derived.OwnWalk
import Derived.Maps.AppendAt
import Derived.Laws.AppendOwnNone
import Derived.Laws.OwnMore
import Derived.Lib.Hide
import Derived.Deep.Draws
import Derived.Deep.LoopGhost
import Derived.Deep.QuietTactic
import Derived.BigQuiet
import Derived.KernelRfl
import Derived.Outline
namespace Go.Proofs.Ytkbboepopcebaaa
open Go.RowKit

def reach : Nat := 140737488351232
theorem reach_lt : reach < 9223372036854775807 := by decide
def nums (k : IntKind) (l : List Int) : List Value := l.map (Value.int k)
theorem nums_length (k : IntKind) (l : List Int) : (nums k l).length = l.length := by simp [nums]
theorem nums_append (k : IntKind) (xs ys : List Int) : nums k (xs ++ ys) = nums k xs ++ nums k ys := by simp [nums]
theorem nums_one (k : IntKind) (l : List Int) : ∀ u ∈ nums k l, u.oneCell' = true := by
  intro u hu; simp only [nums, List.mem_map] at hu; obtain ⟨z, _, rfl⟩ := hu; rfl
theorem nums_get (k : IntKind) (l : List Int) (j : Nat) (h : j < l.length) : (nums k l)[j]? = some (.int k (l.getD j 0)) := by
  simp [nums, List.getD_eq_getElem?_getD, h]

/-- The slice reads as these whole numbers. -/
def NumsR (w : World) (k : IntKind) (A : Option Addr) (l : List Int) : Prop :=
  l.length ≤ reach ∧ (0 < l.length → ∃ b o, A = some ⟨b, o, none⟩ ∧ ∀ j : Nat, j < l.length → w.cell? ⟨b, o + j, none⟩ = some (.int k (l.getD j 0)))

theorem cell_keep {w w1 : World} (h : Below w.heap.size w w1) {a : Addr} {v : Value} (hc : w.cell? a = some v) : w1.cell? a = some v :=
  (h.cell (World.block_lt_of_cell? w a hc)).trans hc
theorem NumsR.mono {w w1 : World} {k : IntKind} {A : Option Addr} {l : List Int} (h : NumsR w k A l) (hb : Below w.heap.size w w1) : NumsR w1 k A l :=
  ⟨h.1, fun hn => by obtain ⟨b, o, e, hc⟩ := h.2 hn; exact ⟨b, o, e, fun j hj => cell_keep hb (hc j hj)⟩⟩
theorem NumsR.nil (w : World) (k : IntKind) (A : Option Addr) : NumsR w k A [] := ⟨by simp [reach], fun h => by simp at h⟩

/-- A slice value that reads as these whole numbers. -/
def NumsV (w : World) (k : IntKind) (v : Value) (l : List Int) : Prop :=
  ∃ A c, v = .slice A l.length c ∧ l.length ≤ c ∧ (A = none → c = 0) ∧ NumsR w k A l
theorem NumsV.mono {w w1 : World} {k : IntKind} {v : Value} {l : List Int} (h : NumsV w k v l) (hb : Below w.heap.size w w1) : NumsV w1 k v l := by
  obtain ⟨A, c, e, h1, h2, h3⟩ := h; exact ⟨A, c, e, h1, h2, h3.mono hb⟩
theorem NumsV.nil (w : World) (k : IntKind) : NumsV w k (.slice none 0 0) [] := ⟨none, 0, rfl, Nat.le_refl _, fun _ => rfl, NumsR.nil w k none⟩
/-- What a law on append wants of its source. -/
theorem NumsR.src {w : World} {k : IntKind} {ad : Addr} {l : List Int} (h : NumsR w k (some ad) l) : ∀ j v, (nums k l)[j]? = some v → w.cell? (ad.add j) = some v := by
  intro j v hv
  have hj : j < l.length := by
    rcases Nat.lt_or_ge j l.length with h | h
    · exact h
    · simp [nums, List.getElem?_eq_none h] at hv
  obtain ⟨b, o, e, hc⟩ := h.2 (by omega)
  obtain rfl := Option.some.inj e
  rw [nums_get k l j hj] at hv
  rw [← Option.some.inj hv, Addr.add_lit]
  exact hc j hj

/-- A slice's cells, from its address on (structs lie flat). -/
def CellsR (w : World) (A : Option Addr) (cs : List Value) : Prop :=
  0 < cs.length → ∃ b o, A = some ⟨b, o, none⟩ ∧ ∀ (j : Nat) (v : Value), cs[j]? = some v → w.cell? ⟨b, o + j, none⟩ = some v
theorem CellsR.mono {w w1 : World} {A : Option Addr} {cs : List Value} (h : CellsR w A cs) (hb : Below w.heap.size w w1) : CellsR w1 A cs :=
  fun hn => by obtain ⟨b, o, e, hc⟩ := h hn; exact ⟨b, o, e, fun j v hv => cell_keep hb (hc j v hv)⟩
theorem CellsR.src {w : World} {ad : Addr} {cs : List Value} (h : CellsR w (some ad) cs) : ∀ (j : Nat) (v : Value), cs[j]? = some v → w.cell? (ad.add j) = some v := by
  intro j v hv
  have hj : 0 < cs.length := by
    rcases Nat.eq_zero_or_pos cs.length with h0 | h0
    · simp [List.eq_nil_of_length_eq_zero h0] at hv
    · exact h0
  obtain ⟨b, o, e, hc⟩ := h hj
  obtain rfl := Option.some.inj e
  rw [Addr.add_lit]
  exact hc j v hv
theorem own_cells {w : World} {base n size : Nat} {e : TypeId} {v : Value} {xs : List Value} (h : w.ownsRow base e size v n xs) : ∃ A c, v = .slice A n c ∧ n ≤ c ∧ (A = none → c = 0) ∧ CellsR w A xs := by
  rcases h.2 with ⟨rfl, h0⟩ | ⟨g, cap, cur, rfl, _, _, hn, _⟩
  · refine ⟨none, 0, by rw [h0], by omega, fun _ => rfl, fun hl => ?_⟩
    have := h.1
    subst h0
    simp at this
    subst this
    simp at hl
  · exact ⟨_, cap, rfl, hn, by simp, fun _ => ⟨g, 0, rfl, fun j u hu => by
      have := h.cells (g := g) rfl j u hu
      rwa [Addr.add_lit] at this⟩⟩

theorem below_drewN {B : Nat} {w W : World} (h : Below B w W) (n : Nat) : Below B w (W.drewN n) := ⟨h.os, h.tape, h.output, h.size, h.block⟩
theorem below_trans {B : Nat} {w w1 w2 : World} (h : Below B w w1) (hB : B ≤ w1.heap.size) (k : Below w1.heap.size w1 w2) : Below B w w2 :=
  h.trans ⟨k.os, k.tape, k.output, k.size, fun i hi => k.block i (Nat.lt_of_lt_of_le hi hB)⟩
theorem below_step {w w1 w2 : World} (h : Below w.heap.size w w1) (k : Below w1.heap.size w1 w2) : Below w.heap.size w w2 := below_trans h h.size k
theorem below_alloc (w : World) (o : Obj) : Below w.heap.size w (w.alloc o) := (Below.refl _ _).alloc (Nat.le_refl _) o
theorem grown_of_below {w w1 : World} (h : Below w.heap.size w w1) (row : Option Nat) : w.grownBy w1 row := ⟨h.os, h.tape, h.output, h.size, fun i hi _ => h.block i hi⟩

section
variable {w w1 : World} {base : Nat} {e : TypeId} {size n : Nat} {v : Value} {xs : List Value}
theorem own_below (h : w.ownsRow base e size v n xs) (hb : Below w.heap.size w w1) : w1.ownsRow base e size v n xs :=
  h.kept (grown_of_below hb none) (by cases v.ownBlock <;> simp)
theorem own_base {b : Nat} (h : w.ownsRow base e size v n xs) (hb : b ≤ base) : w.ownsRow b e size v n xs := by
  refine ⟨h.1, ?_⟩
  rcases h.2 with h' | ⟨g, cap, cur, rfl, h2, h3⟩
  · exact .inl h'
  · exact .inr ⟨g, cap, cur, rfl, by omega, h3⟩
theorem own_ge (h : w.ownsRow base e size v n xs) (k : Nat) (hk : v.ownBlock = some k) : base ≤ k := (h.lt k hk).1
theorem own_lt (h : w.ownsRow base e size v n xs) (k : Nat) (hk : v.ownBlock = some k) : k < w.heap.size := (h.lt k hk).2
theorem own_shape (h : w.ownsRow base e size v n xs) : ∃ A c, v = .slice A n c ∧ n ≤ c := by
  rcases h.2 with ⟨rfl, rfl⟩ | ⟨g, cap, cur, rfl, _, _, hn, _⟩
  · exact ⟨none, 0, rfl, Nat.le_refl _⟩
  · exact ⟨_, cap, rfl, hn⟩
theorem own_other {row : Option Nat} (h : w.ownsRow base e size v n xs) (hg : w.grownBy w1 row) (hne : v.ownBlock = none ∨ v.ownBlock ≠ row) : w1.ownsRow base e size v n xs := h.kept hg hne
end
theorem own_type_ne {w : World} {b b' : Nat} {e e' : TypeId} {s s' n n' : Nat} {v v' : Value} {xs xs' : List Value} (h : w.ownsRow b e s v n xs) (h' : w.ownsRow b' e' s' v' n' xs') (hne : e ≠ e') : v.ownBlock = none ∨ v.ownBlock ≠ v'.ownBlock := by
  rcases h.2 with ⟨rfl, _⟩ | ⟨g, cap, cur, rfl, _, hh, _⟩
  · exact .inl rfl
  · refine .inr fun hk => ?_
    rcases h'.2 with ⟨rfl, _⟩ | ⟨g', cap', cur', rfl, _, hh', _⟩
    · simp [Value.ownBlock] at hk
    · have : g = g' := by simpa [Value.ownBlock] using hk
      subst this
      rw [hh] at hh'
      injection hh' with hh'
      injection hh' with _ ht
      exact hne ht
/-- What is owned reads. -/
theorem own_nums {w : World} {base n : Nat} {e : TypeId} {k : IntKind} {v : Value} {l : List Int} (h : w.ownsRow base e 1 v n (nums k l)) (hr : l.length ≤ reach) : NumsV w k v l := by
  have hl : n = l.length := by have := h.1; simp [nums] at this; omega
  subst hl
  rcases h.2 with ⟨rfl, h0⟩ | ⟨g, cap, cur, rfl, _, _, hn, _⟩
  · obtain rfl : l = [] := List.eq_nil_of_length_eq_zero h0
    exact NumsV.nil w k
  · exact ⟨_, cap, rfl, hn, by simp, hr, fun hn => ⟨g, 0, rfl, fun j hj => by
      have := h.cells (g := g) rfl j _ (nums_get k l j hj)
      rwa [Addr.add_lit] at this⟩⟩
end Go.Proofs.Ytkbboepopcebaaa
