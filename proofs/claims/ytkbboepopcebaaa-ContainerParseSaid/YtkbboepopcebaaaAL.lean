/- A container's own lists, written over: plain lemmas. -/
import Derived.Test.YtkbboepopcebaaaAK
namespace Go.Proofs.Ytkbboepopcebaaa
open Go.RowKit

/-- PartsO, no block of it from hi on. -/
def PartsI (w : World) (lo hi : Nat) (v : Value) (ll : List (List Int)) : Prop := ∃ vs, PartsOv w lo v ll vs ∧ (∀ k, v.ownBlock = some k → k < hi) ∧ ∀ j k, j < ll.length → (vs.getD j undef).ownBlock = some k → k < hi
section
variable {w w1 : World} {lo hi hi' : Nat} {v : Value} {ll : List (List Int)}
theorem PartsI.of (h : PartsO w lo v ll) : PartsI w lo w.heap.size v ll := by
  obtain ⟨vs, h⟩ := h
  exact ⟨vs, h, fun k hk => own_lt h.own k hk, fun j k hj hk => own_lt (h.each j hj) k hk⟩
theorem PartsI.o (h : PartsI w lo hi v ll) : PartsO w lo v ll := by obtain ⟨vs, h, _⟩ := h; exact ⟨vs, h⟩
theorem PartsI.up (h : PartsI w lo hi v ll) (hh : hi ≤ hi') : PartsI w lo hi' v ll := by
  obtain ⟨vs, h, h1, h2⟩ := h
  exact ⟨vs, h, fun k hk => Nat.lt_of_lt_of_le (h1 k hk) hh, fun j k hj hk => Nat.lt_of_lt_of_le (h2 j k hj hk) hh⟩
theorem PartsI.below (h : PartsI w lo hi v ll) (hb : Below w.heap.size w w1) : PartsI w1 lo hi v ll := by
  obtain ⟨vs, h, h1, h2⟩ := h
  exact ⟨vs, h.below hb, h1, h2⟩
theorem PartsI.far (h : PartsI w lo hi v ll) {R : Nat} (hg : w.grownBy w1 (some R)) (hR : hi ≤ R) : PartsI w1 lo hi v ll := by
  obtain ⟨vs, h, h1, h2⟩ := h
  exact ⟨vs, ⟨h.len, own_other h.own hg (.inr fun e => by have := h1 R e; omega), fun j hj => own_other (h.each j hj) hg (.inr fun e => by have := h2 j R hj e; omega), h.apart⟩, h1, h2⟩
end
theorem PartsOv.set {w : World} {B g n cap : Nat} {ll : List (List Int)} {vs : List Value} (h : PartsOv w B (.slice (some ⟨g, 0, none⟩) n cap) ll vs) (j : Nat) (hj : j < ll.length) {b : Nat} {p : Value} {l : List Int} (hp : w.ownsRow b 5 1 p l.length (nums .u8 l)) (hb : B ≤ b)
    (hfar : ∀ i k, i < ll.length → (vs.getD i undef).ownBlock = some k → k < b) : PartsOv (w.setCell ⟨g, j, none⟩ p) B (.slice (some ⟨g, 0, none⟩) n cap) (ll.set j l) (vs.set j p) := by
  have hn : n = ll.length := by
    rcases h.own.2 with ⟨e, _⟩ | ⟨g', cap', cur, e, _⟩
    · simp at e
    · simp at e; exact e.2.1
  subst hn
  obtain ⟨hs, hg⟩ := h.own.stored j p
  refine ⟨by simp [h.len], by simpa using hs, fun i hi => ?_, ?_⟩
  · simp only [List.length_set] at hi
    by_cases e : i = j
    · subst e
      have e1 : (vs.set i p).getD i undef = p := by simp [List.getD_eq_getElem?_getD, show i < vs.length by have := h.len; omega]
      have e2 : (ll.set i l).getD i [] = l := by simp [List.getD_eq_getElem?_getD, hi]
      rw [e1, e2]
      exact own_base (own_other hp hg (own_type_ne hp h.own (by decide))) hb
    · have e1 : (vs.set j p).getD i undef = vs.getD i undef := by simp [List.getD_eq_getElem?_getD, List.getElem?_set, Ne.symm e]
      have e2 : (ll.set j l).getD i [] = ll.getD i [] := by simp [List.getD_eq_getElem?_getD, List.getElem?_set, Ne.symm e]
      rw [e1, e2]
      exact own_other (h.each i hi) hg (own_type_ne (h.each i hi) h.own (by decide))
  · intro i k hik hk q hq
    simp only [List.length_set] at hk
    have hlen := h.len
    by_cases ei : i = j
    · subst ei
      have e1 : (vs.set i p).getD i undef = p := by simp [List.getD_eq_getElem?_getD, show i < vs.length by omega]
      have e2 : (vs.set i p).getD k undef = vs.getD k undef := by simp [List.getD_eq_getElem?_getD, List.getElem?_set, show ¬ i = k by omega]
      rw [e1] at hq
      rw [e2]
      intro hk'
      have h1 := own_ge hp q hq
      have h2 := hfar k q (by omega) hk'
      omega
    · have e1 : (vs.set j p).getD i undef = vs.getD i undef := by simp [List.getD_eq_getElem?_getD, List.getElem?_set, Ne.symm ei]
      rw [e1] at hq
      by_cases ek : k = j
      · subst ek
        have e2 : (vs.set k p).getD k undef = p := by simp [List.getD_eq_getElem?_getD, show k < vs.length by omega]
        rw [e2]
        intro hk'
        have h1 := own_ge hp q hk'
        have h2 := hfar i q (by omega) hq
        omega
      · have e2 : (vs.set j p).getD k undef = vs.getD k undef := by simp [List.getD_eq_getElem?_getD, List.getElem?_set, Ne.symm ek]
        rw [e2]
        exact h.apart i k hik hk q hq
theorem PartsI.set {w : World} {lo hi hi' g n cap : Nat} {ll : List (List Int)} (h : PartsI w lo hi (.slice (some ⟨g, 0, none⟩) n cap) ll) (j : Nat) (hj : j < ll.length) {b : Nat} {p : Value} {l : List Int} (hp : w.ownsRow b 5 1 p l.length (nums .u8 l)) (hlo : lo ≤ hi) (hb : hi ≤ b) (hh : hi ≤ hi') (hp2 : ∀ k, p.ownBlock = some k → k < hi') :
    PartsI (w.setCell ⟨g, j, none⟩ p) lo hi' (.slice (some ⟨g, 0, none⟩) n cap) (ll.set j l) := by
  obtain ⟨vs, h, h1, h2⟩ := h
  refine ⟨_, h.set j hj hp (by omega) fun i k hi hk => by have := h2 i k hi hk; omega, fun k hk => by have := h1 k hk; omega, fun i k hi hk => ?_⟩
  simp only [List.length_set] at hi
  by_cases e : i = j
  · subst e
    have e1 : (vs.set i p).getD i undef = p := by simp [List.getD_eq_getElem?_getD, show i < vs.length by have := h.len; omega]
    rw [e1] at hk
    exact hp2 k hk
  · have e1 : (vs.set j p).getD i undef = vs.getD i undef := by simp [List.getD_eq_getElem?_getD, List.getElem?_set, Ne.symm e]
    rw [e1] at hk
    have := h2 i k hi hk
    omega
/-- A container of lists of its own, in blocks from lo on and below hi. -/
structure PC3 (w : World) (lo hi : Nat) (T C S D : Value) (c : Cont) : Prop where
  t : w.ownsRow lo 69 3 T c.types.length (tysOf c.types)
  tl : ∀ k, T.ownBlock = some k → k < hi
  cs : PartsI w lo hi C c.codes
  ss : PartsI w lo hi S c.subs
  d : w.ownsRow lo 5 1 D c.data.length (nums .u8 c.data)
  dl : ∀ k, D.ownBlock = some k → k < hi
  ne : C.ownBlock = none ∨ C.ownBlock ≠ S.ownBlock
theorem PC2.three {w : World} {B : Nat} {v : Value} {c : Cont} (h : PC2 w B v c) : ∃ A0 c0 A1 c1 A2 c2 A3 c3, v = .agg #[.slice A0 c.types.length c0, .slice A1 c.codes.length c1, .slice A2 c.subs.length c2, .slice A3 c.data.length c3, .int .i64 c.size] ∧ PC3 w B w.heap.size (.slice A0 c.types.length c0) (.slice A1 c.codes.length c1) (.slice A2 c.subs.length c2) (.slice A3 c.data.length c3) c := by
  obtain ⟨T, C, S, D, rfl, h1, h2, h3, h4, h5⟩ := h
  obtain ⟨A0, c0, rfl, _⟩ := own_shape h1
  obtain ⟨A1, c1, rfl⟩ := h2.shape
  obtain ⟨A2, c2, rfl⟩ := h3.shape
  obtain ⟨A3, c3, rfl, _⟩ := own_shape h4
  exact ⟨A0, c0, A1, c1, A2, c2, A3, c3, rfl, h1, fun k hk => own_lt h1 k hk, .of h2, .of h3, h4, fun k hk => own_lt h4 k hk, h5⟩
section
variable {w w1 : World} {lo hi hi' : Nat} {T C S D : Value} {c : Cont}
theorem PC3.two (h : PC3 w lo hi T C S D c) : PC2 w lo (.agg #[T, C, S, D, .int .i64 c.size]) c := ⟨T, C, S, D, rfl, h.t, h.cs.o, h.ss.o, h.d, h.ne⟩
theorem PC3.below (h : PC3 w lo hi T C S D c) (hb : Below w.heap.size w w1) : PC3 w1 lo hi T C S D c := ⟨own_below h.t hb, h.tl, h.cs.below hb, h.ss.below hb, own_below h.d hb, h.dl, h.ne⟩
theorem PC3.up (h : PC3 w lo hi T C S D c) (hh : hi ≤ hi') : PC3 w lo hi' T C S D c := ⟨h.t, fun k hk => Nat.lt_of_lt_of_le (h.tl k hk) hh, h.cs.up hh, h.ss.up hh, h.d, fun k hk => Nat.lt_of_lt_of_le (h.dl k hk) hh, h.ne⟩
theorem PC3.far (h : PC3 w lo hi T C S D c) {R : Nat} (hg : w.grownBy w1 (some R)) (hR : hi ≤ R) : PC3 w1 lo hi T C S D c :=
  ⟨own_other h.t hg (.inr fun e => by have := h.tl R e; omega), h.tl, h.cs.far hg hR, h.ss.far hg hR, own_other h.d hg (.inr fun e => by have := h.dl R e; omega), h.dl, h.ne⟩
end
theorem PartsI.other {w : World} {lo hi g j : Nat} {v p : Value} {ll : List (List Int)} (h : PartsI w lo hi v ll) {B n cap : Nat} {vs' : List Value} (hw : w.ownsRow B 22 1 (.slice (some ⟨g, 0, none⟩) n cap) n vs') (hne : v.ownBlock ≠ some g) : PartsI (w.setCell ⟨g, j, none⟩ p) lo hi v ll := by
  obtain ⟨vs, h, h1, h2⟩ := h
  obtain ⟨_, hg⟩ := hw.stored j p
  exact ⟨vs, ⟨h.len, own_other h.own hg (.inr hne), fun i hi => own_other (h.each i hi) hg (own_type_ne (h.each i hi) hw (by decide)), h.apart⟩, h1, h2⟩
theorem PartsI.other69 {w : World} {lo hi g j : Nat} {v p : Value} {ll : List (List Int)} (h : PartsI w lo hi v ll) {B n cap : Nat} {vs' : List Value} (hw : w.ownsRow B 69 3 (.slice (some ⟨g, 0, none⟩) n cap) n vs') : PartsI (w.setCell ⟨g, j, none⟩ p) lo hi v ll := by
  obtain ⟨vs, h, h1, h2⟩ := h
  obtain ⟨_, hg⟩ := hw.stored j p
  exact ⟨vs, ⟨h.len, own_other h.own hg (own_type_ne h.own hw (by decide)), fun i hi => own_other (h.each i hi) hg (own_type_ne (h.each i hi) hw (by decide)), h.apart⟩, h1, h2⟩
theorem PartsI.own {w : World} {lo hi : Nat} {v : Value} {ll : List (List Int)} (h : PartsI w lo hi v ll) : ∃ vs, w.ownsRow lo 22 1 v ll.length vs := by obtain ⟨vs, h, _⟩ := h; exact ⟨vs, h.own⟩
/-- The first section, replaced. -/
theorem PC3.code {w : World} {lo hi hi' g cap b : Nat} {T S D p : Value} {c : Cont} {l : List Int} (h : PC3 w lo hi T (.slice (some ⟨g, 0, none⟩) c.codes.length cap) S D c) (hj : 0 < c.codes.length) (hp : w.ownsRow b 5 1 p l.length (nums .u8 l)) (hlo : lo ≤ hi) (hb : hi ≤ b) (hh : hi ≤ hi') (hp2 : ∀ k, p.ownBlock = some k → k < hi') :
    PC3 (w.setCell ⟨g, 0, none⟩ p) lo hi' T (.slice (some ⟨g, 0, none⟩) c.codes.length cap) S D { c with codes := c.codes.set 0 l } := by
  obtain ⟨vs, ho⟩ := h.cs.own
  obtain ⟨_, hg⟩ := ho.stored 0 p
  have hne : S.ownBlock ≠ some g := by
    rcases h.ne with e | e
    · simp [Value.ownBlock] at e
    · exact fun e2 => e e2.symm
  exact ⟨own_other h.t hg (own_type_ne h.t ho (by decide)), fun k hk => by have := h.tl k hk; omega, h.cs.set 0 hj hp hlo hb hh hp2, (h.ss.other ho hne).up hh, own_other h.d hg (own_type_ne h.d ho (by decide)), fun k hk => by have := h.dl k hk; omega, h.ne⟩
/-- The first nested container, replaced. -/
theorem PC3.sub {w : World} {lo hi hi' g cap b : Nat} {T C D p : Value} {c : Cont} {l : List Int} (h : PC3 w lo hi T C (.slice (some ⟨g, 0, none⟩) c.subs.length cap) D c) (hj : 0 < c.subs.length) (hp : w.ownsRow b 5 1 p l.length (nums .u8 l)) (hlo : lo ≤ hi) (hb : hi ≤ b) (hh : hi ≤ hi') (hp2 : ∀ k, p.ownBlock = some k → k < hi') :
    PC3 (w.setCell ⟨g, 0, none⟩ p) lo hi' T C (.slice (some ⟨g, 0, none⟩) c.subs.length cap) D { c with subs := c.subs.set 0 l } := by
  obtain ⟨vs, ho⟩ := h.ss.own
  obtain ⟨_, hg⟩ := ho.stored 0 p
  have hne : C.ownBlock ≠ some g := by
    rcases h.ne with e | e
    · rw [e]; simp
    · exact e
  exact ⟨own_other h.t hg (own_type_ne h.t ho (by decide)), fun k hk => by have := h.tl k hk; omega, (h.cs.other ho hne).up hh, h.ss.set 0 hj hp hlo hb hh hp2, own_other h.d hg (own_type_ne h.d ho (by decide)), fun k hk => by have := h.dl k hk; omega, h.ne⟩
/-- A type's height, written over. -/
theorem tys_set (ts : List Ty) : ∀ j, j < ts.length → ∀ m, (tysOf ts).set (j * 3 + 2) (.int .i64 m) = tysOf (ts.set j { ts.getD j ty0 with m := m }) := by
  induction ts with
  | nil => intro j h; simp at h
  | cons t r ih =>
    intro j hj m
    cases j with
    | zero => simp [tysOf, tyCells]
    | succ j =>
      have := ih j (by simpa using hj) m
      simp only [tysOf, List.flatMap_cons, List.set_cons_succ, List.getD_cons_succ] at *
      rw [← this]
      have hl : (tyCells t).length = 3 := rfl
      rw [List.set_append_right _ _ (by omega), hl]
      rw [show (j + 1) * 3 + 2 - 3 = j * 3 + 2 by omega]
theorem PC3.most {w : World} {lo hi g cap : Nat} {C S D : Value} {c : Cont} (h : PC3 w lo hi (.slice (some ⟨g, 0, none⟩) c.types.length cap) C S D c) (j : Nat) (hj : j < c.types.length) (m : Int) :
    PC3 (w.setCell ⟨g, j * 3 + 2, none⟩ (.int .i64 m)) lo hi (.slice (some ⟨g, 0, none⟩) c.types.length cap) C S D { c with types := c.types.set j { c.types.getD j ty0 with m := m } } := by
  obtain ⟨hs, hg⟩ := h.t.stored (j * 3 + 2) (.int .i64 m)
  rw [tys_set _ j hj] at hs
  exact ⟨by simpa using hs, h.tl, h.cs.other69 h.t, h.ss.other69 h.t, own_other h.d hg (own_type_ne h.d h.t (by decide)), h.dl, h.ne⟩
end Go.Proofs.Ytkbboepopcebaaa
