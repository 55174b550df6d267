/- The reference's header: what it computes, plain, and its walk. -/
import Derived.Test.YtkbboepopcebaaaBB
namespace Go.Proofs.Ytkbboepopcebaaa
open Go.RowKit

/-- Where the reference's header stands. -/
structure HS where
  k : Nat
  types : Int
  cl : List Int
  sl : List Int
  size : Int
/-- What comes behind a field. -/
def hmore (what v : Int) : List Fl :=
  if what = 7 then List.replicate v.toNat (2, 8) ++ [(1, 9)] else if what = 9 then (if v = 3 then [(2, 10)] else [(2, 13), (1, 14)])
  else if what = 10 then List.replicate v.toNat (4, 11) ++ [(1, 12), (2, 13), (1, 14)] else []
def hupd (f : Fl) (v : Int) (s : HS) : HS :=
  if f.2 = 5 then { s with k := s.k + f.1.toNat, types := v } else if f.2 = 8 then { s with k := s.k + f.1.toNat, cl := s.cl ++ [v] }
  else if f.2 = 11 then { s with k := s.k + f.1.toNat, sl := s.sl ++ [v] } else if f.2 = 13 then { s with k := s.k + f.1.toNat, size := v } else { s with k := s.k + f.1.toNat }
/-- The reference's header, field by field, in so many steps. -/
inductive HGo (b : List Int) : Nat → List Fl → HS → Except Bad HS → Prop where
  | done (s : HS) : HGo b 0 [] s (.ok s)
  | cut (f : Fl) (q : List Fl) (s : HS) : b.length < s.k + f.1.toNat → HGo b 0 (f :: q) s (.error (50, b.length))
  | bad (f : Fl) (q : List Fl) (s : HS) (v : Int) : num b s.k f.1.toNat = v → ¬ b.length < s.k + f.1.toNat → ¬ wrongF f.2 v s.types = 0 → HGo b 0 (f :: q) s (.error (wrongF f.2 v s.types, s.k))
  | step (n : Nat) (f : Fl) (q : List Fl) (s : HS) (v : Int) (R : Except Bad HS) : num b s.k f.1.toNat = v → ¬ b.length < s.k + f.1.toNat → wrongF f.2 v s.types = 0 → HGo b n (q ++ hmore f.2 v) (hupd f v s) R → HGo b (n + 1) (f :: q) s R
theorem HGo.inv {b : List Int} {n : Nat} {f : Fl} {q : List Fl} {s : HS} {R : Except Bad HS} (h : HGo b n (f :: q) s R) :
    (b.length < s.k + f.1.toNat ∧ R = .error (50, b.length)) ∨ (¬ b.length < s.k + f.1.toNat ∧ ¬ wrongF f.2 (num b s.k f.1.toNat) s.types = 0 ∧ R = .error (wrongF f.2 (num b s.k f.1.toNat) s.types, s.k)) ∨
    (¬ b.length < s.k + f.1.toNat ∧ wrongF f.2 (num b s.k f.1.toNat) s.types = 0 ∧ ∃ m, n = m + 1 ∧ HGo b m (q ++ hmore f.2 (num b s.k f.1.toNat)) (hupd f (num b s.k f.1.toNat) s) R) := by
  cases h with
  | cut _ _ _ h => exact .inl ⟨h, rfl⟩
  | bad _ _ _ v e h1 h2 => subst e; exact .inr (.inl ⟨h1, h2, rfl⟩)
  | step n _ _ _ v _ e h1 h2 h3 => subst e; exact .inr (.inr ⟨h1, h2, n, rfl, h3⟩)
theorem HGo.nil {b : List Int} {n : Nat} {s : HS} {R : Except Bad HS} (h : HGo b n [] s R) : R = .ok s := by cases h; rfl
def Kind (f : Fl) : Prop := f = (1, 1) ∨ f = (1, 2) ∨ f = (1, 3) ∨ f = (1, 4) ∨ f = (2, 5) ∨ f = (1, 6) ∨ f = (2, 7) ∨ f = (2, 8) ∨ f = (1, 9) ∨ f = (2, 10) ∨ f = (4, 11) ∨ f = (1, 12) ∨ f = (2, 13) ∨ f = (1, 14)
theorem kind_more (what v : Int) : ∀ f ∈ hmore what v, Kind f := by
  intro f hf
  unfold hmore at hf
  unfold Kind
  split at hf
  · simp at hf; rcases hf with ⟨_, rfl⟩ | rfl <;> simp
  · split at hf
    · split at hf
      · simp at hf; subst hf; simp
      · simp at hf; rcases hf with rfl | rfl <;> simp
    · split at hf
      · simp at hf; rcases hf with ⟨_, rfl⟩ | rfl | rfl | rfl <;> simp
      · simp at hf
theorem more_len (what v : Int) (hv : v ≤ 65535) : (hmore what v).length ≤ 70000 := by
  unfold hmore
  split
  · simp; omega
  · split
    · split <;> simp
    · split
      · simp; omega
      · simp
def fields0 : List Fl := [(1, 1), (1, 2), (1, 3), (1, 4), (2, 5), (1, 6), (2, 7)]
def hs0 : HS := ⟨0, 0, [], [], 0⟩
/-- What the reference's header hands back. -/
def HPost (R : Except Bad HS) (w : World) (e : Ending) (w' : World) : Prop := Below w.heap.size w w' ∧ match R with
  | .ok s => ∃ v2 v3, e = .returned (.tuple #[v2, v3, .int .i64 s.size, .int .i64 (s.k : Int), .int .i64 0, .int .i64 0]) ∧ NumsV w' .i64 v2 s.cl ∧ NumsV w' .i64 v3 s.sl
  | .error x => e = .returned (.tuple #[.slice none 0 0, .slice none 0 0, .int .i64 0, .int .i64 0, .int .i64 x.1, .int .i64 x.2])
theorem hp_err {R : Except Bad HS} {x : Bad} {w w' : World} (h : R = .error x) (hb : Below w.heap.size w w') : HPost R w (.returned (.tuple #[.slice none 0 0, .slice none 0 0, .int .i64 0, .int .i64 0, .int .i64 x.1, .int .i64 x.2])) w' := by subst h; exact ⟨hb, rfl⟩
/-- The loop's state. -/
structure HRel (b : List Int) (R : Except Bad HS) (w : World) (n : Nat) (v2 v3 v4 v8 v9 v10 v11 : Value) (wr : World) (fl : List Fl) (i : Nat) (s : HS) : Prop where
  hi : v11 = .int .i64 (i : Int)
  hil : i ≤ fl.length
  hk : v10 = .int .i64 (s.k : Int)
  hkb : s.k ≤ b.length
  hik : i ≤ s.k
  ht : v9 = .int .i64 s.types
  hsz : v4 = .int .i64 s.size
  hof : OwnF wr w.heap.size v8 fl
  hoc : OwnI wr w.heap.size v2 s.cl
  hos : OwnI wr w.heap.size v3 s.sl
  hne : v2.ownBlock = none ∨ v2.ownBlock ≠ v3.ownBlock
  hcl : s.cl.length ≤ i
  hsl : s.sl.length ≤ i
  hfll : fl.length ≤ 7 + i * 70000
  hkinds : ∀ f ∈ fl, Kind f
  hbelow : Below w.heap.size w wr
  hgo : HGo b n (fl.drop i) s R
theorem own_shapeF {w : World} {B : Nat} {v : Value} {l : List Fl} (h : OwnF w B v l) (hl : 0 < l.length) : ∃ g cap, v = .slice (some ⟨g, 0, none⟩) l.length cap ∧ ∀ j, j < l.length → w.cell? ⟨g, j * 2, none⟩ = some (.int .i64 (l.getD j (0, 0)).1) ∧ w.cell? ⟨g, j * 2 + 1, none⟩ = some (.int .i64 (l.getD j (0, 0)).2) := by
  obtain ⟨A, cap, e, _⟩ := own_shape h
  subst e
  obtain ⟨g, rfl⟩ := RowI.shape h hl
  refine ⟨g, cap, rfl, fun j hj => ?_⟩
  obtain ⟨h1, h2⟩ := flsOf_at l j hj
  exact ⟨by rw [h.cellAt (j * 2) (by omega)]; exact h1, by rw [h.cellAt (j * 2 + 1) (by omega)]; exact h2⟩
theorem own_ext {w w' : World} {B B2 n n2 s s2 : Nat} {e e2 : TypeId} {v v' u : Value} {xs ys : List Value} (h : Ext w w' v v') (hv : w.ownsRow B e s v n xs) (hu : w.ownsRow B2 e2 s2 u n2 ys) (hne : e2 ≠ e) : w'.ownsRow B2 e2 s2 u n2 ys := own_other hu h.grown (own_type_ne hu hv hne)
theorem ext_keep {w w' : World} {B2 : Nat} {v v' u : Value} {l2 : List Int} (h : Ext w w' v v') (hu : OwnI w B2 u l2) (hne : v.ownBlock = none ∨ v.ownBlock ≠ u.ownBlock) : OwnI w' B2 u l2 ∧ (v'.ownBlock = none ∨ v'.ownBlock ≠ u.ownBlock) := by
  have hlt : ∀ k, u.ownBlock = some k → k < w.heap.size := fun k hk => own_lt hu k hk
  refine ⟨own_other hu h.grown ?_, ?_⟩
  · cases hu2 : u.ownBlock with
    | none => exact .inl rfl
    | some k =>
      refine .inr fun e => ?_
      rcases hne with e2 | e2
      · rw [e2] at e; simp at e
      · exact e2 (by rw [← e, hu2])
  · rcases h.lies with e | ⟨b, e, hb⟩
    · rw [e]; exact hne
    · refine .inr fun e2 => ?_
      have := hlt b (by rw [← e2, e])
      omega
theorem drop_cons {α : Type} (l : List α) (i : Nat) (d : α) (h : i < l.length) : l.drop i = l.getD i d :: l.drop (i + 1) := by
  rw [List.drop_eq_getElem_cons h]; simp [List.getD_eq_getElem?_getD, h]
theorem hupd_k (f : Fl) (v : Int) (s : HS) : (hupd f v s).k = s.k + f.1.toNat := by
  unfold hupd
  by_cases h1 : f.2 = 5
  · rw [if_pos h1]
  · rw [if_neg h1]
    by_cases h2 : f.2 = 8
    · rw [if_pos h2]
    · rw [if_neg h2]
      by_cases h3 : f.2 = 11
      · rw [if_pos h3]
      · rw [if_neg h3]
        by_cases h4 : f.2 = 13
        · rw [if_pos h4]
        · rw [if_neg h4]
theorem hupd_cl (f : Fl) (v : Int) (s : HS) : (hupd f v s).cl.length ≤ s.cl.length + 1 := by
  unfold hupd
  by_cases h1 : f.2 = 5
  · rw [if_pos h1]; simp
  · rw [if_neg h1]
    by_cases h2 : f.2 = 8
    · rw [if_pos h2]; simp
    · rw [if_neg h2]
      by_cases h3 : f.2 = 11
      · rw [if_pos h3]; simp
      · rw [if_neg h3]
        by_cases h4 : f.2 = 13
        · rw [if_pos h4]; simp
        · rw [if_neg h4]; simp
theorem hupd_sl (f : Fl) (v : Int) (s : HS) : (hupd f v s).sl.length ≤ s.sl.length + 1 := by
  unfold hupd
  by_cases h1 : f.2 = 5
  · rw [if_pos h1]; simp
  · rw [if_neg h1]
    by_cases h2 : f.2 = 8
    · rw [if_pos h2]; simp
    · rw [if_neg h2]
      by_cases h3 : f.2 = 11
      · rw [if_pos h3]; simp
      · rw [if_neg h3]
        by_cases h4 : f.2 = 13
        · rw [if_pos h4]; simp
        · rw [if_neg h4]; simp
theorem HRel.step {b : List Int} {R : Except Bad HS} {w : World} {n m : Nat} {v2 v3 v4 v8 v9 v10 v11 : Value} {wr : World} {fl : List Fl} {i : Nat} {s : HS} (H : HRel b R w n v2 v3 v4 v8 v9 v10 v11 wr fl i s) (hi : i < fl.length)
    {f : Fl} {v : Int} (hcut : ¬ b.length < s.k + f.1.toNat) (hf : 1 ≤ f.1.toNat) (hml : (hmore f.2 v).length ≤ 70000) (hgo : HGo b m (fl.drop (i + 1) ++ hmore f.2 v) (hupd f v s) R)
    {u2 u3 u4 u8 u9 u10 u11 : Value} {w' : World} (e11 : u11 = .int .i64 ((i + 1 : Nat) : Int)) (e10 : u10 = .int .i64 ((s.k + f.1.toNat : Nat) : Int)) (e9 : u9 = .int .i64 (hupd f v s).types) (e4 : u4 = .int .i64 (hupd f v s).size)
    (hof : OwnF w' w.heap.size u8 (fl ++ hmore f.2 v)) (hoc : OwnI w' w.heap.size u2 (hupd f v s).cl) (hos : OwnI w' w.heap.size u3 (hupd f v s).sl) (hne : u2.ownBlock = none ∨ u2.ownBlock ≠ u3.ownBlock) (hb : Below w.heap.size w w') :
    HRel b R w m u2 u3 u4 u8 u9 u10 u11 w' (fl ++ hmore f.2 v) (i + 1) (hupd f v s) := by
  have hk := hupd_k f v s
  have hcl := hupd_cl f v s
  have hsl := hupd_sl f v s
  have h1 := H.hik
  have h2 := H.hcl
  have h3 := H.hsl
  have h4 := H.hfll
  refine ⟨e11, by simp; omega, by rw [hk]; exact e10, by rw [hk]; omega, by rw [hk]; omega, e9, e4, hof, hoc, hos, hne, by omega, by omega, by simp; omega, fun g hg => ?_, hb, ?_⟩
  · rcases List.mem_append.1 hg with hg | hg
    · exact H.hkinds g hg
    · exact kind_more _ _ g hg
  · rw [List.drop_append_of_le_length (by omega)]
    exact hgo
end Go.Proofs.Ytkbboepopcebaaa
