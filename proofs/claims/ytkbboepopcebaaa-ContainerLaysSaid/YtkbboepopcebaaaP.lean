/- Lists of lists of bytes, read or owned. Plain definitions and lemmas. -/
import Derived.Test.YtkbboepopcebaaaV
namespace Go.Proofs.Ytkbboepopcebaaa
open Go.RowKit

def PartsR (w : World) (A : Option Addr) (ll : List (List Int)) : Prop :=
  ll.length ≤ reach ∧ (0 < ll.length → ∃ b o, A = some ⟨b, o, none⟩ ∧ ∀ j : Nat, j < ll.length → ∃ v, w.cell? ⟨b, o + j, none⟩ = some v ∧ NumsV w .u8 v (ll.getD j []))
def PartsV (w : World) (v : Value) (ll : List (List Int)) : Prop :=
  ∃ A c, v = .slice A ll.length c ∧ ll.length ≤ c ∧ (A = none → c = 0) ∧ PartsR w A ll
theorem PartsR.mono {w w1 : World} {A : Option Addr} {ll : List (List Int)} (h : PartsR w A ll) (hb : Below w.heap.size w w1) : PartsR w1 A ll :=
  ⟨h.1, fun hn => by obtain ⟨b, o, e, hc⟩ := h.2 hn; exact ⟨b, o, e, fun j hj => by obtain ⟨v, h1, h2⟩ := hc j hj; exact ⟨v, cell_keep hb h1, h2.mono hb⟩⟩⟩
theorem PartsV.mono {w w1 : World} {v : Value} {ll : List (List Int)} (h : PartsV w v ll) (hb : Below w.heap.size w w1) : PartsV w1 v ll := by
  obtain ⟨A, c, e, h1, h2, h3⟩ := h; exact ⟨A, c, e, h1, h2, h3.mono hb⟩

/-- No two of these slices lie in one block. -/
def Apart (vs : List Value) : Prop := ∀ i j, i < j → j < vs.length → ∀ k, (vs.getD i undef).ownBlock = some k → (vs.getD j undef).ownBlock ≠ some k
/-- The slice v, the call's own, holds the slices vs; each is the call's own, and reads as its part. -/
structure PartsOv (w : World) (B : Nat) (v : Value) (ll : List (List Int)) (vs : List Value) : Prop where
  len : vs.length = ll.length
  own : w.ownsRow B 22 1 v ll.length vs
  each : ∀ j, j < ll.length → w.ownsRow B 5 1 (vs.getD j undef) (ll.getD j []).length (nums .u8 (ll.getD j []))
  apart : Apart vs
def PartsO (w : World) (B : Nat) (v : Value) (ll : List (List Int)) : Prop := ∃ vs : List Value, PartsOv w B v ll vs

theorem PartsOv.nil (w : World) (B : Nat) : PartsOv w B (.slice none 0 0) [] [] := ⟨rfl, World.ownsRow_nil _ _ _ _, fun j hj => by simp at hj, fun i j _ h => by simp at h⟩
theorem PartsO.nil (w : World) (B : Nat) : PartsO w B (.slice none 0 0) [] := ⟨[], PartsOv.nil w B⟩
theorem PartsOv.below {w w1 : World} {B : Nat} {v : Value} {ll : List (List Int)} {vs : List Value} (h : PartsOv w B v ll vs) (hb : Below w.heap.size w w1) : PartsOv w1 B v ll vs :=
  ⟨h.len, own_below h.own hb, fun j hj => own_below (h.each j hj) hb, h.apart⟩
theorem PartsO.below {w w1 : World} {B : Nat} {v : Value} {ll : List (List Int)} (h : PartsO w B v ll) (hb : Below w.heap.size w w1) : PartsO w1 B v ll := by
  obtain ⟨vs, h⟩ := h; exact ⟨vs, h.below hb⟩
theorem PartsO.base {w : World} {B B' : Nat} {v : Value} {ll : List (List Int)} (h : PartsO w B v ll) (hb : B' ≤ B) : PartsO w B' v ll := by
  obtain ⟨vs, h⟩ := h
  exact ⟨vs, h.len, own_base h.own hb, fun j hj => own_base (h.each j hj) hb, h.apart⟩
/-- One part more, in a block that was made since (w1 is the world in which the new slice is appended). -/
theorem PartsOv.snoc {w w1 w2 : World} {B b : Nat} {v v' p : Value} {ll : List (List Int)} {l : List Int} {vs : List Value} (hB : B ≤ b) (hw : w.heap.size ≤ b) (h : PartsOv w B v ll vs) (hb : Below w.heap.size w w1)
    (hp : w1.ownsRow b 5 1 p l.length (nums .u8 l)) (hown : w2.ownsRow B 22 1 v' (ll.length + 1) (vs ++ [p])) (hg : w1.grownBy w2 v.ownBlock) :
    PartsOv w2 B v' (ll ++ [l]) (vs ++ [p]) := by
  obtain ⟨h0, h1, h2, h3⟩ := h
  have h1' := own_below h1 hb
  refine ⟨by simp [h0], by simpa using hown, fun j hj => ?_, ?_⟩
  · rcases Nat.lt_or_ge j ll.length with hl | hl
    · have e1 : (vs ++ [p]).getD j undef = vs.getD j undef := by simp [List.getD_eq_getElem?_getD, List.getElem?_append, h0, hl]
      have e2 : (ll ++ [l]).getD j [] = ll.getD j [] := by simp [List.getD_eq_getElem?_getD, List.getElem?_append, hl]
      rw [e1, e2]
      exact own_other (own_below (h2 j hl) hb) hg (own_type_ne (own_below (h2 j hl) hb) h1' (by decide))
    · have hj' : j = ll.length := by simp at hj; omega
      subst hj'
      have e1 : (vs ++ [p]).getD ll.length undef = p := by simp [List.getD_eq_getElem?_getD, h0]
      have e2 : (ll ++ [l]).getD ll.length [] = l := by simp [List.getD_eq_getElem?_getD]
      rw [e1, e2]
      exact own_base (own_other hp hg (own_type_ne hp h1' (by decide))) hB
  · intro i j hij hj k hk
    simp only [List.length_append, List.length_singleton] at hj
    have e1 : (vs ++ [p]).getD i undef = vs.getD i undef := by simp [List.getD_eq_getElem?_getD, List.getElem?_append, show i < vs.length by omega]
    rw [e1] at hk
    rcases Nat.lt_or_ge j vs.length with hl | hl
    · have e2 : (vs ++ [p]).getD j undef = vs.getD j undef := by simp [List.getD_eq_getElem?_getD, List.getElem?_append, hl]
      rw [e2]
      exact h3 i j hij hl k hk
    · have hj' : j = vs.length := by omega
      subst hj'
      have e2 : (vs ++ [p]).getD vs.length undef = p := by simp [List.getD_eq_getElem?_getD]
      rw [e2]
      intro hpk
      have g1 := own_lt (h2 i (by omega)) k hk
      have g2 := own_ge hp k hpk
      omega
/-- What is owned reads. -/
theorem PartsO.reads {w : World} {B : Nat} {v : Value} {ll : List (List Int)} (h : PartsO w B v ll) (hn : ll.length ≤ reach) (hr : ∀ l ∈ ll, l.length ≤ reach) : PartsV w v ll := by
  obtain ⟨vs, h0, h1, h2, h3⟩ := h
  rcases h1.2 with ⟨rfl, h4⟩ | ⟨g, cap, cur, rfl, _, _, hc, _⟩
  · obtain rfl : ll = [] := List.eq_nil_of_length_eq_zero h4
    exact ⟨none, 0, rfl, Nat.le_refl _, fun _ => rfl, hn, fun h => by simp at h⟩
  · refine ⟨_, cap, rfl, hc, by simp, hn, fun hp => ⟨g, 0, rfl, fun j hj => ⟨vs.getD j undef, ?_, ?_⟩⟩⟩
    · rw [← Addr.add_lit]
      refine h1.cells (g := g) rfl j _ ?_
      simp [List.getD_eq_getElem?_getD, show j < vs.length by omega]
    · refine own_nums (h2 j hj) ?_
      have : ll.getD j [] = ll[j] := by simp [List.getD_eq_getElem?_getD, hj]
      rw [this]
      exact hr _ (List.getElem_mem _)
theorem take_snoc' {α : Type} (ll : List α) (k : Nat) (d : α) (h : k < ll.length) : ll.take (k + 1) = ll.take k ++ [ll.getD k d] := by
  rw [List.take_succ_eq_append_getElem h]
  simp [List.getD_eq_getElem?_getD, h]

/-- A type of a section. -/
structure Ty where
  i : Int
  o : Int
  m : Int
  deriving DecidableEq
def tyCells (t : Ty) : List Value := [.int .i64 t.i, .int .i64 t.o, .int .i64 t.m]
def tysOf (ts : List Ty) : List Value := ts.flatMap tyCells
theorem tysOf_length (ts : List Ty) : (tysOf ts).length = ts.length * 3 := by
  induction ts with
  | nil => rfl
  | cons t r ih => simp only [tysOf, List.flatMap_cons, List.length_append] at *; rw [ih]; simp [tyCells]; omega
theorem tysOf_append (xs ys : List Ty) : tysOf (xs ++ ys) = tysOf xs ++ tysOf ys := by simp [tysOf]
theorem tysOf_one (ts : List Ty) : ∀ u ∈ tysOf ts, u.oneCell' = true := by
  intro u hu
  simp only [tysOf, List.mem_flatMap, tyCells] at hu
  obtain ⟨t, _, h⟩ := hu
  simp at h
  rcases h with rfl | rfl | rfl <;> rfl
def ty0 : Ty := ⟨0, 0, 0⟩
theorem tysOf_at (ts : List Ty) : ∀ k, k < ts.length → (tysOf ts)[k * 3]? = some (.int .i64 (ts.getD k ty0).i) ∧ (tysOf ts)[k * 3 + 1]? = some (.int .i64 (ts.getD k ty0).o) ∧ (tysOf ts)[k * 3 + 2]? = some (.int .i64 (ts.getD k ty0).m) := by
  induction ts with
  | nil => intro k h; simp at h
  | cons t r ih =>
    intro k hk
    cases k with
    | zero => simp [tysOf, tyCells]
    | succ k =>
      have := ih k (by simpa using hk)
      simp only [tysOf, List.flatMap_cons, List.getD_cons_succ] at *
      have hl : (tyCells t).length = 3 := rfl
      rw [List.getElem?_append_right (by omega), List.getElem?_append_right (by omega), List.getElem?_append_right (by omega), hl]
      rw [show (k + 1) * 3 - 3 = k * 3 by omega, show (k + 1) * 3 + 1 - 3 = k * 3 + 1 by omega, show (k + 1) * 3 + 2 - 3 = k * 3 + 2 by omega]
      exact this
def TypesV (w : World) (v : Value) (ts : List Ty) : Prop :=
  ∃ A c, v = .slice A ts.length c ∧ ts.length ≤ c ∧ (A = none → c = 0) ∧ ts.length ≤ reach ∧ CellsR w A (tysOf ts)
theorem TypesV.mono {w w1 : World} {v : Value} {ts : List Ty} (h : TypesV w v ts) (hb : Below w.heap.size w w1) : TypesV w1 v ts := by
  obtain ⟨A, c, e, h1, h2, h3, h4⟩ := h; exact ⟨A, c, e, h1, h2, h3, h4.mono hb⟩
/-- What the walk reads at the k-th type. -/
theorem types_at {w : World} {A : Option Addr} {ts : List Ty} (h : CellsR w A (tysOf ts)) (k : Nat) (hk : k < ts.length) : ∃ b o, A = some ⟨b, o, none⟩ ∧
    w.cell? ⟨b, o + k * 3, none⟩ = some (.int .i64 (ts.getD k ty0).i) ∧ w.cell? ⟨b, o + k * 3 + 1, none⟩ = some (.int .i64 (ts.getD k ty0).o) ∧ w.cell? ⟨b, o + k * 3 + 2, none⟩ = some (.int .i64 (ts.getD k ty0).m) := by
  obtain ⟨b, o, e, hc⟩ := h (by rw [tysOf_length]; omega)
  obtain ⟨h1, h2, h3⟩ := tysOf_at ts k hk
  exact ⟨b, o, e, hc _ _ h1, hc _ _ h2, hc _ _ h3⟩

/-- A container. -/
structure Cont where
  types : List Ty
  codes : List (List Int)
  subs : List (List Int)
  data : List Int
  size : Int
  deriving DecidableEq
def ContV (w : World) (v : Value) (c : Cont) : Prop :=
  ∃ vt vc vs vd, v = .agg #[vt, vc, vs, vd, .int .i64 c.size] ∧ TypesV w vt c.types ∧ PartsV w vc c.codes ∧ PartsV w vs c.subs ∧ NumsV w .u8 vd c.data
theorem ContV.mono {w w1 : World} {v : Value} {c : Cont} (h : ContV w v c) (hb : Below w.heap.size w w1) : ContV w1 v c := by
  obtain ⟨vt, vc, vs, vd, e, h1, h2, h3, h4⟩ := h; exact ⟨vt, vc, vs, vd, e, h1.mono hb, h2.mono hb, h3.mono hb, h4.mono hb⟩
end Go.Proofs.Ytkbboepopcebaaa
