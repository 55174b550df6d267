/- A container's own lists, written over: plain lemmas. -/
import Derived.Test.YtkbboepopcebaaaAK
namespace Go.Proofs.Ytkbboepopcebaaa
open Go.RowKit

/-- PartsO, no block of it from hi on. -/
def PartsI (w : World) (lo hi : Nat) (v : Value) (ll : List (List Int)) : Prop := ∃ vs, PartsOv w lo v ll vs ∧ (∀ k, v.ownBlock = some k → k < hi) ∧ ∀ j k, j < ll.length → (vs.getD j undef).ownBlock = some k → k < hi
section
variable {w w1 : World} {lo hi hi' : Nat} {v : Value} {ll : List (List Int)}
theorem PartsI.of (h : PartsO w lo v ll) : PartsI w lo w.heap.size v ll := by
  obtain ⟨vs, h⟩ := h
  exact ⟨vs, h, fun k hk => own_lt h.own k hk, fun j k hj hk => own_lt (h.each j hj) k hk⟩
theorem PartsI.o (h : PartsI w lo hi v ll) : PartsO w lo v ll := by obtain ⟨vs, h, _⟩ := h; exact ⟨vs, h⟩
theorem PartsI.up (h : PartsI w lo hi v ll) (hh : hi ≤ hi') : PartsI w lo hi' v ll := by
  obtain ⟨vs, h, h1, h2⟩ := h
  exact ⟨vs, h, fun k hk => Nat.lt_of_lt_of_le (h1 k hk) hh, fun j k hj hk => Nat.lt_of_lt_of_le (h2 j k hj hk) hh⟩
theorem PartsI.below (h : PartsI w lo hi v ll) (hb : Below w.heap.size w w1) : PartsI w1 lo hi v ll := by
  obtain ⟨vs, h, h1, h2⟩ := h
  exact ⟨vs, h.below hb, h1, h2⟩
theorem PartsI.far (h : PartsI w lo hi v ll) {R : Nat} (hg : w.grownBy w1 (some R)) (hR : hi ≤ R) : PartsI w1 lo hi v ll := by
  obtain ⟨vs, h, h1, h2⟩ := h
  exact ⟨vs, ⟨h.len, own_other h.own hg (.inr fun e => by have := h1 R e; omega), fun j hj => own_other (h.each j hj) hg (.inr fun e => by have := h2 j R hj e; omega), h.apart⟩, h1, h2⟩
end
theorem PartsOv.set {w : World} {B g n cap : Nat} {ll : List (List Int)} {vs : List Value} (h : PartsOv w B (.slice (some ⟨g, 0, none⟩) n cap) ll vs) (j : Nat) (hj : j < ll.length) {b : Nat} {p : Value} {l : List Int} (hp : w.ownsRow b 5 1 p l.length (nums .u8 l)) (hb : B ≤ b)
    (hfar : ∀ i k, i < ll.length → (vs.getD i undef).ownBlock = some k → k < b) : PartsOv (w.setCell ⟨g, j, none⟩ p) B (.slice (some ⟨g, 0, none⟩) n cap) (ll.set j l) (vs.set j p) := by
  have hn : n = ll.length := by
    rcases h.own.2 with ⟨e, _⟩ | ⟨g', cap', cur, e, _⟩
    · simp at e
    · simp at e; exact e.2.1
  subst hn
  obtain ⟨hs, hg⟩ := h.own.stored j p
  refine ⟨by simp [h.len], by simpa using hs, fun i hi => ?_, ?_⟩
  · simp only [List.length_set] at hi
    by_cases e : i = j
    · subst e
      have e1 : (vs.set i p).getD i undef = p := by simp [List.getD_eq_getElem?_getD, show i < vs.length by have := h.len; omega]
      have e2 : (ll.set i l).getD i [] = l := by simp [List.getD_eq_getElem?_getD, hi]
      rw [e1, e2]
      exact own_base (own_other hp hg (own_type_ne hp h.own (by decide))) hb
    · have e1 : (vs.set j p).getD i undef = vs.getD i undef := by simp [List.getD_eq_getElem?_getD, List.getElem?_set, Ne.symm e]
      have e2 : (ll.set j l).getD i [] = ll.getD i [] := by simp [List.getD_eq_getElem?_getD, List.getElem?_set, Ne.symm e]
      rw [e1, e2]
      exact own_other (h.each i hi) hg (own_type_ne (h.each i hi) h.own (by decide))
  · intro i k hik hk q hq
    simp only [List.length_set] at hk
    have hlen := h.len
    by_cases ei : i = j
    · subst ei
      have e1 : (vs.set i p).getD i undef = p := by simp [List.getD_eq_getElem?_getD, show i < vs.length by omega]
      have e2 : (vs.set i p).getD k undef = vs.getD k undef := by simp [List.getD_eq_getElem?_getD, List.getElem?_set, show ¬ i = k by omega]
      rw [e1] at hq
      rw [e2]
      intro hk'
      have h1 := own_ge hp q hq
      have h2 := hfar k q (by omega) hk'
      omega
    · have e1 : (vs.set j p).getD i undef = vs.getD i undef := by simp [List.getD_eq_getElem?_getD, List.getElem?_set, Ne.symm ei]
      rw [e1] at hq
      by_cases ek : k = j
      · subst ek
        have e2 : (vs.set k p).getD k undef = p := by simp [List.getD_eq_getElem?_getD, show k < vs.length by omega]
        rw [e2]
        intro hk'
        have h1 := own_ge hp q hk'
        have h2 := hfar i q (by omega) hq
        omega
      · have e2 : (vs.set j p).getD k undef = vs.getD k undef := by simp [List.getD_eq_getElem?_getD, List.getElem?_set, Ne.symm ek]
        rw [e2]
        exact h.apart i k hik hk q hq
theorem PartsI.set {w : World} {lo hi hi' g n cap : Nat} {ll : List (List Int)} (h : PartsI w lo hi (.slice (some ⟨g, 0, none⟩) n cap) ll) (j : Nat) (hj : j < ll.length) {b : Nat} {p : Value} {l : List Int} (hp : w.ownsRow b 5 1 p l.length (nums .u8 l)) (hlo : lo ≤ hi) (hb : hi ≤ b) (hh : hi ≤ hi') (hp2 : ∀ k, p.ownBlock = some k → k < hi') :
    PartsI (w.setCell ⟨g, j, none⟩ p) lo hi' (.slice (some ⟨g, 0, none⟩) n cap) (ll.set j l) := by
  obtain ⟨vs, h, h1, h2⟩ := h
  refine ⟨_, h.set j hj hp (by omega) fun i k hi hk => by have := h2 i k hi hk; omega, fun k hk => by have := h1 k hk; omega, fun i k hi hk => ?_⟩
  simp only [List.length_set] at hi
  by_cases e : i = j
  · subst e
    have e1 : (vs.set i p).getD i undef = p := by simp [List.getD_eq_getElem?_getD, show i < vs.length by have := h.len; omega]
    rw [e1] at hk
    exact hp2 k hk
  · have e1 : (vs.set j p).getD i undef = vs.getD i undef := by simp [List.getD_eq_getElem?_getD, List.getElem?_set, Ne.symm e]
    rw [e1] at hk
    have := h2 i k hi hk
    omega
/-- A container of lists of its own, in blocks from lo on and below hi. -/
structure PC3 (w : World) (lo hi : Nat) (T C S D : Value) (c : Cont) : Prop where
  t : w.ownsRow lo 69 3 T c.types.length (tysOf c.types)
  tl : ∀ k, T.ownBlock = some k → k < hi
  cs : PartsI w lo hi C c.codes
  ss : PartsI w lo hi S c.subs
  d : w.ownsRow lo 5 1 D c.data.length (nums .u8 c.data)
  dl : ∀ k, D.ownBlock = some k → k < hi
  ne : C.ownBlock = none ∨ C.ownBlock ≠ S.ownBlock
theorem PC2.three {w : World} {B : Nat} {v : Value} {c : Cont} (h : PC2 w B v c) : ∃ A0 c0 A1 c1 A2 c2 A3 c3, v = .agg #[.slice A0 c.types.length c0, .slice A1 c.codes.length c1, .slice A2 c.subs.length c2, .slice A3 c.data.length c3, .int .i64 c.size] ∧ PC3 w B w.heap.size (.slice A0 c.types.length c0) (.slice A1 c.codes.length c1) (.slice A2 c.subs.length c2) (.slice A3 c.data.length c3) c := by
  obtain ⟨T, C, S, D, rfl, h1, h2, h3, h4, h5⟩ := h
  obtain ⟨A0, c0, rfl, _⟩ := own_shape h1
  obtain ⟨A1, c1, rfl⟩ := h2.shape
  obtain ⟨A2, c2, rfl⟩ := h3.shape
  obtain ⟨A3, c3, rfl, _⟩ := own_shape h4
  exact ⟨A0, c0, A1, c1, A2, c2, A3, c3, rfl, h1, fun k hk => own_lt h1 k hk, .of h2, .of h3, h4, fun k hk => own_lt h4 k hk, h5⟩
section
variable {w w1 : World} {lo hi hi' : Nat} {T C S D : Value} {c : Cont}
theorem PC3.two (h : PC3 w lo hi T C S D c) : PC2 w lo (.agg #[T, C, S, D, .int .i64 c.size]) c := ⟨T, C, S, D, rfl, h.t, h.cs.o, h.ss.o, h.d, h.ne⟩
theorem PC3.below (h : PC3 w lo hi T C S D c) (hb : Below w.heap.size w w1) : PC3 w1 lo hi T C S D c := ⟨own_below h.t hb, h.tl, h.cs.below hb, h.ss.below hb, own_below h.d hb, h.dl, h.ne⟩
theorem PC3.up (h : PC3 w lo hi T C S D c) (hh : hi ≤ hi') : PC3 w lo hi' T C S D c := ⟨h.t, fun k hk => Nat.lt_of_lt_of_le (h.tl k hk) hh, h.cs.up hh, h.ss.up hh, h.d, fun k hk => Nat.lt_of_lt_of_le (h.dl k hk) hh, h.ne⟩
theorem PC3.far (h : PC3 w lo hi T C S D c) {R : Nat} (hg : w.grownBy w1 (some R)) (hR : hi ≤ R) : PC3 w1 lo hi T C S D c :=
  ⟨own_other h.t hg (.inr fun e => by have := h.tl R e; omega), h.tl, h.cs.far hg hR, h.ss.far hg hR, own_other h.d hg (.inr fun e => by have := h.dl R e; omega), h.dl, h.ne⟩
end
theorem PartsI.other {w : World} {lo hi g j : Nat} {v p : Value} {ll : List (List Int)} (h : PartsI w lo hi v ll) {B n cap : Nat} {vs' : List Value} (hw : w.ownsRow B 22 1 (.slice (some ⟨g, 0, none⟩) n cap) n vs') (hne : v.ownBlock ≠ some g) : PartsI (w.setCell ⟨g, j, none⟩ p) lo hi v ll := by
  obtain ⟨vs, h, h1, h2⟩ := h
  obtain ⟨_, hg⟩ := hw.stored j p
  exact ⟨vs, ⟨h.len, own_other h.own hg (.inr hne), fun i hi => own_other (h.each i hi) hg (own_type_ne (h.each i hi) hw (by decide)), h.apart⟩, h1, h2⟩
theorem PartsI.other69 {w : World} {lo hi g j : Nat} {v p : Value} {ll : List (List Int)} (h : PartsI w lo hi v ll) {B n cap : Nat} {vs' : List Value} (hw : w.ownsRow B 69 3 (.slice (some ⟨g, 0, none⟩) n cap) n vs') : PartsI (w.setCell ⟨g, j, none⟩ p) lo hi v ll := by
  obtain ⟨vs, h, h1, h2⟩ := h
  obtain ⟨_, hg⟩ := hw.stored j p
  exact ⟨vs, ⟨h.len, own_other h.own hg (own_type_ne h.own hw (by decide)), fun i hi => own_other (h.each i hi) hg (own_type_ne (h.each i hi) hw (by decide)), h.apart⟩, h1, h2⟩
theorem PartsI.own {w : World} {lo hi : Nat} {v : Value} {ll : List (List Int)} (h : PartsI w lo hi v ll) : ∃ vs, w.ownsRow lo 22 1 v ll.length vs := by obtain ⟨vs, h, _⟩ := h; exact ⟨vs, h.own⟩
/-- The first section, replaced. -/
theorem PC3.code {w : World} {lo hi hi' g cap b : Nat} {T S D p : Value} {c : Cont} {l : List Int} (h : PC3 w lo hi T (.slice (some ⟨g, 0, none⟩) c.codes.length cap) S D c) (hj : 0 < c.codes.length) (hp : w.ownsRow b 5 1 p l.length (nums .u8 l)) (hlo : lo ≤ hi) (hb : hi ≤ b) (hh : hi ≤ hi') (hp2 : ∀ k, p.ownBlock = some k → k < hi') :
    PC3 (w.setCell ⟨g, 0, none⟩ p) lo hi' T (.slice (some ⟨g, 0, none⟩) c.codes.length cap) S D { c with codes := c.codes.set 0 l } := by
  obtain ⟨vs, ho⟩ := h.cs.own
  obtain ⟨_, hg⟩ := ho.stored 0 p
  have hne : S.ownBlock ≠ some g := by
    rcases h.ne with e | e
    · simp [Value.ownBlock] at e
    · exact fun e2 => e e2.symm
  exact ⟨own_other h.t hg (own_type_ne h.t ho (by decide)), fun k hk => by have := h.tl k hk; omega, h.cs.set 0 hj hp hlo hb hh hp2, (h.ss.other ho hne).up hh, own_other h.d hg (own_type_ne h.d ho (by decide)), fun k hk => by have := h.dl k hk; omega, h.ne⟩
/-- The first nested container, replaced. -/
theorem PC3.sub {w : World} {lo hi hi' g cap b : Nat} {T C D p : Value} {c : Cont} {l : List Int} (h : PC3 w lo hi T C (.slice (some ⟨g, 0, none⟩) c.subs.length cap) D c) (hj : 0 < c.subs.length) (hp : w.ownsRow b 5 1 p l.length (nums .u8 l)) (hlo : lo ≤ hi) (hb : hi ≤ b) (hh : hi ≤ hi') (hp2 : ∀ k, p.ownBlock = some k → k < hi') :
    PC3 (w.setCell ⟨g, 0, none⟩ p) lo hi' T C (.slice (some ⟨g, 0, none⟩) c.subs.length cap) D { c with subs := c.subs.set 0 l } := by
  obtain ⟨vs, ho⟩ := h.ss.own
  obtain ⟨_, hg⟩ := ho.stored 0 p
  have hne : C.ownBlock ≠ some g := by
    rcases h.ne with e | e
    · rw [e]; simp
    · exact e
  exact ⟨own_other h.t hg (own_type_ne h.t ho (by decide)), fun k hk => by have := h.tl k hk; omega, (h.cs.other ho hne).up hh, h.ss.set 0 hj hp hlo hb hh hp2, own_other h.d hg (own_type_ne h.d ho (by decide)), fun k hk => by have := h.dl k hk; omega, h.ne⟩
/-- A type's height, written over. -/
theorem tys_set (ts : List Ty) : ∀ j, j < ts.length → ∀ m, (tysOf ts).set (j * 3 + 2) (.int .i64 m) = tysOf (ts.set j { ts.getD j ty0 with m := m }) := by
  induction ts with
  | nil => intro j h; simp at h
  | cons t r ih =>
    intro j hj m
    cases j with
    | zero => simp [tysOf, tyCells]
    | succ j =>
      have := ih j (by simpa using hj) m
      simp only [tysOf, List.flatMap_cons, List.set_cons_succ, List.getD_cons_succ] at *
      rw [← this]
      have hl : (tyCells t).length = 3 := rfl
      rw [List.set_append_right _ _ (by omega), hl]
      rw [show (j + 1) * 3 + 2 - 3 = j * 3 + 2 by omega]
theorem PC3.most {w : World} {lo hi g cap : Nat} {C S D : Value} {c : Cont} (h : PC3 w lo hi (.slice (some ⟨g, 0, none⟩) c.types.length cap) C S D c) (j : Nat) (hj : j < c.types.length) (m : Int) :
    PC3 (w.setCell ⟨g, j * 3 + 2, none⟩ (.int .i64 m)) lo hi (.slice (some ⟨g, 0, none⟩) c.types.length cap) C S D { c with types := c.types.set j { c.types.getD j ty0 with m := m } } := by
  obtain ⟨hs, hg⟩ := h.t.stored (j * 3 + 2) (.int .i64 m)
  rw [tys_set _ j hj] at hs
  exact ⟨by simpa using hs, h.tl, h.cs.other69 h.t, h.ss.other69 h.t, own_other h.d hg (own_type_ne h.d h.t (by decide)), h.dl, h.ne⟩
end Go.Proofs.Ytkbboepopcebaaa
namespace Go.Proofs.Ytkbboepopcebaaa
open Go.RowKit

/-- A block of a container's variable. -/
def Is28 (w : World) (Z : Nat) : Prop := ∃ cs f, w.heap[Z]? = some (.cells cs 28 f)
theorem Is28.of {w w1 : World} {Z : Nat} (h : Is28 w Z) (hb : w1.heap[Z]? = w.heap[Z]?) : Is28 w1 Z := by obtain ⟨cs, f, h⟩ := h; exact ⟨cs, f, hb.trans h⟩
theorem Is28.set {w : World} {Z : Nat} (h : Is28 w Z) (a : Addr) (v : Value) : Is28 (w.setCell a v) Z := by
  obtain ⟨cs, f, h⟩ := h
  by_cases e : a.block = Z
  · subst e
    have hlt : a.block < w.heap.size := by
      rcases Nat.lt_or_ge a.block w.heap.size with h0 | h0
      · exact h0
      · rw [Array.getElem?_eq_none h0] at h; simp at h
    have hs : (w.setCell a v).heap.size = w.heap.size := by simp [World.setCell]
    have hlt2 : a.block < (w.setCell a v).heap.size := by omega
    refine ⟨if a.spot.isSome then cs else cs.setIfInBounds a.off v, f, ?_⟩
    rw [Array.getElem?_eq_getElem hlt2]
    simp only [World.setCell, Array.getElem_modify, if_pos]
    rw [Array.getElem?_eq_getElem hlt] at h
    rw [Option.some.inj h]
  · exact ⟨cs, f, (Below.heap_setCell w _ _ Z (by simpa using fun e2 => e e2.symm)).trans h⟩
theorem Is28.off {w : World} {Z : Nat} (h : Is28 w Z) {B e s n : Nat} {v : Value} {vs : List Value} (hr : w.ownsRow B e s v n vs) (hne : e ≠ 28) : v.ownBlock ≠ some Z := by
  obtain ⟨cs, f, h⟩ := h
  exact fun e2 => row_ne hr h hne e2.symm
theorem PC3.far28 {w w1 : World} {lo hi Z : Nat} {T C S D : Value} {c : Cont} (h : PC3 w lo hi T C S D c) (hg : w.grownBy w1 (some Z)) (hz : Is28 w Z) : PC3 w1 lo hi T C S D c := by
  obtain ⟨vs, hc, hc1, hc2⟩ := h.cs
  obtain ⟨us, hs, hs1, hs2⟩ := h.ss
  exact ⟨own_other h.t hg (.inr (hz.off h.t (by decide))), h.tl,
    ⟨vs, ⟨hc.len, own_other hc.own hg (.inr (hz.off hc.own (by decide))), fun i hi => own_other (hc.each i hi) hg (.inr (hz.off (hc.each i hi) (by decide))), hc.apart⟩, hc1, hc2⟩,
    ⟨us, ⟨hs.len, own_other hs.own hg (.inr (hz.off hs.own (by decide))), fun i hi => own_other (hs.each i hi) hg (.inr (hz.off (hs.each i hi) (by decide))), hs.apart⟩, hs1, hs2⟩,
    own_other h.d hg (.inr (hz.off h.d (by decide))), h.dl, h.ne⟩
theorem is28_new (w : World) (va : Array Value) : Is28 (w.alloc (.cells va 28)) w.heap.size := ⟨va, (0, 0), heap_alloc_new w _⟩
theorem Is28.below {w w1 : World} {Z B : Nat} (h : Is28 w Z) (hb : Below B w w1) (hZ : Z < B) : Is28 w1 Z := h.of (hb.block Z hZ)
theorem CC.below {w w1 : World} {C B : Nat} {v0 v1 v2 v3 v4 : Value} (h : CC w C v0 v1 v2 v3 v4) (hb : Below B w w1) (hC : C < B) : CC w1 C v0 v1 v2 v3 v4 := h.of_block (hb.block C hC)
theorem CC.new (w : World) (v0 v1 v2 v3 v4 : Value) : CC (w.alloc (.cells #[v0, v1, v2, v3, v4] 28)) w.heap.size v0 v1 v2 v3 v4 :=
  ⟨box1_at _ _ _ _ _ rfl, box1_at _ _ _ _ _ rfl, box1_at _ _ _ _ _ rfl, box1_at _ _ _ _ _ rfl, box1_at _ _ _ _ _ rfl, fun j => alloc_free _ _ _ _⟩

/-- Where a walk over a container's own lists stands: the parameter's variable X, the result's Z. -/
structure OSt (w0 w : World) (B : Nat) (X Z : Nat) (T C S D : Value) (c : Cont) : Prop where
  below : Below B w0 w
  p : PC3 w B w.heap.size T C S D c
  x : CC w X T C S D (.int .i64 c.size)
  z : CC w Z (.slice none 0 0) (.slice none 0 0) (.slice none 0 0) (.slice none 0 0) (.int .i64 0)
  x28 : Is28 w X
  z28 : Is28 w Z
  xz : X ≠ Z
  bx : B ≤ X
  bz : B ≤ Z
theorem OSt.start (w : World) {lo hi : Nat} {T C S D : Value} {c : Cont} (h : PC3 w lo hi T C S D c) (hh : hi ≤ w.heap.size) (hl : lo ≤ hi) : OSt w ((w.alloc (.cells #[T, C, S, D, .int .i64 c.size] 28)).alloc (.cells #[.slice none 0 0, .slice none 0 0, .slice none 0 0, .slice none 0 0, .int .i64 0] 28)) lo w.heap.size (w.heap.size + 1) T C S D c := by
  have s1 : (w.alloc (.cells #[T, C, S, D, .int .i64 c.size] 28)).heap.size = w.heap.size + 1 := by simp
  have hb := below_alloc w (.cells #[T, C, S, D, .int .i64 c.size] 28)
  have hb2 := below_alloc (w.alloc (.cells #[T, C, S, D, .int .i64 c.size] 28)) (.cells #[.slice none 0 0, .slice none 0 0, .slice none 0 0, .slice none 0 0, .int .i64 0] 28)
  have hb3 := below_step hb hb2
  refine ⟨below_trans (Below.refl _ _) (by omega) hb3, (h.below hb3).up (by simp; omega), (CC.new w _ _ _ _ _).below hb2 (by omega), ?_, (is28_new w _).below hb2 (by omega), ?_, by omega, by omega, by omega⟩
  · rw [← s1]; exact CC.new _ _ _ _ _ _
  · rw [← s1]; exact is28_new _ _
theorem PartsI.cell {w : World} {lo hi g n cap : Nat} {ll : List (List Int)} (h : PartsI w lo hi (.slice (some ⟨g, 0, none⟩) n cap) ll) (hj : 0 < ll.length) : ∃ p, w.cell? ⟨g, 0, none⟩ = some p ∧ w.ownsRow lo 5 1 p (ll.getD 0 []).length (nums .u8 (ll.getD 0 [])) ∧ w.frozen? ⟨g, 0, none⟩ = false := by
  obtain ⟨vs, h, _⟩ := h
  have hn : n = ll.length := by
    rcases h.own.2 with ⟨e, _⟩ | ⟨g', cap', cur, e, _⟩
    · simp at e
    · simp at e; exact e.2.1
  subst hn
  refine ⟨vs.getD 0 undef, ?_, h.each 0 hj, h.own.frozenAt 0⟩
  rw [h.own.cellAt 0 (by omega)]
  simp [List.getD_eq_getElem?_getD, show 0 < vs.length by have := h.len; omega]
theorem PartsI.shape {w : World} {lo hi n cap : Nat} {A : Option Addr} {ll : List (List Int)} (h : PartsI w lo hi (.slice A n cap) ll) (hj : 0 < ll.length) : ∃ g, A = some ⟨g, 0, none⟩ := by
  obtain ⟨vs, h, _⟩ := h
  rcases h.own.2 with ⟨_, e⟩ | ⟨g', cap', cur, e, _⟩
  · omega
  · simp at e; exact ⟨g', e.1⟩
theorem RowI.shape {w : World} {lo e s n cap : Nat} {A : Option Addr} {xs : List Value} (h : w.ownsRow lo e s (.slice A n cap) n xs) (hj : 0 < n) : ∃ g, A = some ⟨g, 0, none⟩ := by
  rcases h.2 with ⟨_, e⟩ | ⟨g', cap', cur, e, _⟩
  · omega
  · simp at e; exact ⟨g', e.1⟩
/-- The state, the first section replaced. -/
theorem OSt.code {w0 w w2 : World} {B X Z g cap b : Nat} {T S D p : Value} {c : Cont} {l : List Int} (h : OSt w0 w B X Z T (.slice (some ⟨g, 0, none⟩) c.codes.length cap) S D c) (hj : 0 < c.codes.length) (hb : Below w.heap.size w w2) (hp : w2.ownsRow w.heap.size 5 1 p l.length (nums .u8 l)) :
    OSt w0 (w2.setCell ⟨g, 0, none⟩ p) B X Z T (.slice (some ⟨g, 0, none⟩) c.codes.length cap) S D { c with codes := c.codes.set 0 l } := by
  have hX : X < w.heap.size := h.x.lt
  have hZ : Z < w.heap.size := h.z.lt
  have hs : (w2.setCell ⟨g, 0, none⟩ p).heap.size = w2.heap.size := by simp [World.setCell]
  obtain ⟨vs, ho⟩ := h.p.cs.own
  have hgX : X ≠ g := fun e => h.x28.off ho (by decide) (by rw [e]; rfl)
  have hgZ : Z ≠ g := fun e => h.z28.off ho (by decide) (by rw [e]; rfl)
  have hgB : B ≤ g := own_ge ho g rfl
  refine ⟨(below_trans h.below (by have := h.bx; omega) hb).grown (grown_setCell _ _ _ _) (by have := h.bx; have := hb.size; omega) (by rintro k ⟨⟩; exact hgB), ?_, (h.x.below hb hX).of_block (set_block p hgX), (h.z.below hb hZ).of_block (set_block p hgZ), (h.x28.below hb hX).set _ _, (h.z28.below hb hZ).set _ _, h.xz, h.bx, h.bz⟩
  rw [hs]
  exact (h.p.below hb).code hj hp (by have := h.bx; omega) (Nat.le_refl _) hb.size (fun k hk => own_lt hp k hk)
/-- The state, the first nested container replaced. -/
theorem OSt.sub {w0 w w2 : World} {B X Z g cap b : Nat} {T C D p : Value} {c : Cont} {l : List Int} (h : OSt w0 w B X Z T C (.slice (some ⟨g, 0, none⟩) c.subs.length cap) D c) (hj : 0 < c.subs.length) (hb : Below w.heap.size w w2) (hp : w2.ownsRow w.heap.size 5 1 p l.length (nums .u8 l)) :
    OSt w0 (w2.setCell ⟨g, 0, none⟩ p) B X Z T C (.slice (some ⟨g, 0, none⟩) c.subs.length cap) D { c with subs := c.subs.set 0 l } := by
  have hX : X < w.heap.size := h.x.lt
  have hZ : Z < w.heap.size := h.z.lt
  have hs : (w2.setCell ⟨g, 0, none⟩ p).heap.size = w2.heap.size := by simp [World.setCell]
  obtain ⟨vs, ho⟩ := h.p.ss.own
  have hgX : X ≠ g := fun e => h.x28.off ho (by decide) (by rw [e]; rfl)
  have hgZ : Z ≠ g := fun e => h.z28.off ho (by decide) (by rw [e]; rfl)
  have hgB : B ≤ g := own_ge ho g rfl
  refine ⟨(below_trans h.below (by have := h.bx; omega) hb).grown (grown_setCell _ _ _ _) (by have := h.bx; have := hb.size; omega) (by rintro k ⟨⟩; exact hgB), ?_, (h.x.below hb hX).of_block (set_block p hgX), (h.z.below hb hZ).of_block (set_block p hgZ), (h.x28.below hb hX).set _ _, (h.z28.below hb hZ).set _ _, h.xz, h.bx, h.bz⟩
  rw [hs]
  exact (h.p.below hb).sub hj hp (by have := h.bx; omega) (Nat.le_refl _) hb.size (fun k hk => own_lt hp k hk)
/-- The state, the last type's height replaced. -/
theorem OSt.most {w0 w : World} {B X Z g cap : Nat} {C S D : Value} {c : Cont} (h : OSt w0 w B X Z (.slice (some ⟨g, 0, none⟩) c.types.length cap) C S D c) (j : Nat) (hj : j < c.types.length) (m : Int) :
    OSt w0 (w.setCell ⟨g, j * 3 + 2, none⟩ (.int .i64 m)) B X Z (.slice (some ⟨g, 0, none⟩) c.types.length cap) C S D { c with types := c.types.set j { c.types.getD j ty0 with m := m } } := by
  have hs : (w.setCell ⟨g, j * 3 + 2, none⟩ (.int .i64 m)).heap.size = w.heap.size := by simp [World.setCell]
  have hgX : X ≠ g := fun e => h.x28.off h.p.t (by decide) (by rw [e]; rfl)
  have hgZ : Z ≠ g := fun e => h.z28.off h.p.t (by decide) (by rw [e]; rfl)
  have hgB : B ≤ g := own_ge h.p.t g rfl
  refine ⟨h.below.grown (grown_setCell _ _ _ _) (by have := h.bx; have := h.x.lt; have := h.below.size; omega) (by rintro k ⟨⟩; exact hgB), ?_, h.x.of_block (set_block _ hgX), h.z.of_block (set_block _ hgZ), h.x28.set _ _, h.z28.set _ _, h.xz, h.bx, h.bz⟩
  rw [hs]
  exact h.p.most j hj m
end Go.Proofs.Ytkbboepopcebaaa
