/- longer: its own lists, written over. -/
import Derived.Test.YtkbboepopcebaaaAL
namespace Go.Proofs.Ytkbboepopcebaaa
open Go.RowKit

/-- A block of a container's variable. -/
def Is28 (w : World) (Z : Nat) : Prop := ∃ cs f, w.heap[Z]? = some (.cells cs 28 f)
theorem Is28.of {w w1 : World} {Z : Nat} (h : Is28 w Z) (hb : w1.heap[Z]? = w.heap[Z]?) : Is28 w1 Z := by obtain ⟨cs, f, h⟩ := h; exact ⟨cs, f, hb.trans h⟩
theorem Is28.set {w : World} {Z : Nat} (h : Is28 w Z) (a : Addr) (v : Value) : Is28 (w.setCell a v) Z := by
  obtain ⟨cs, f, h⟩ := h
  by_cases e : a.block = Z
  · subst e
    have hlt : a.block < w.heap.size := by
      rcases Nat.lt_or_ge a.block w.heap.size with h0 | h0
      · exact h0
      · rw [Array.getElem?_eq_none h0] at h; simp at h
    have hs : (w.setCell a v).heap.size = w.heap.size := by simp [World.setCell]
    have hlt2 : a.block < (w.setCell a v).heap.size := by omega
    refine ⟨if a.spot.isSome then cs else cs.setIfInBounds a.off v, f, ?_⟩
    rw [Array.getElem?_eq_getElem hlt2]
    simp only [World.setCell, Array.getElem_modify, if_pos]
    rw [Array.getElem?_eq_getElem hlt] at h
    rw [Option.some.inj h]
  · exact ⟨cs, f, (Below.heap_setCell w _ _ Z (by simpa using fun e2 => e e2.symm)).trans h⟩
theorem Is28.off {w : World} {Z : Nat} (h : Is28 w Z) {B e s n : Nat} {v : Value} {vs : List Value} (hr : w.ownsRow B e s v n vs) (hne : e ≠ 28) : v.ownBlock ≠ some Z := by
  obtain ⟨cs, f, h⟩ := h
  exact fun e2 => row_ne hr h hne e2.symm
theorem PC3.far28 {w w1 : World} {lo hi Z : Nat} {T C S D : Value} {c : Cont} (h : PC3 w lo hi T C S D c) (hg : w.grownBy w1 (some Z)) (hz : Is28 w Z) : PC3 w1 lo hi T C S D c := by
  obtain ⟨vs, hc, hc1, hc2⟩ := h.cs
  obtain ⟨us, hs, hs1, hs2⟩ := h.ss
  exact ⟨own_other h.t hg (.inr (hz.off h.t (by decide))), h.tl,
    ⟨vs, ⟨hc.len, own_other hc.own hg (.inr (hz.off hc.own (by decide))), fun i hi => own_other (hc.each i hi) hg (.inr (hz.off (hc.each i hi) (by decide))), hc.apart⟩, hc1, hc2⟩,
    ⟨us, ⟨hs.len, own_other hs.own hg (.inr (hz.off hs.own (by decide))), fun i hi => own_other (hs.each i hi) hg (.inr (hz.off (hs.each i hi) (by decide))), hs.apart⟩, hs1, hs2⟩,
    own_other h.d hg (.inr (hz.off h.d (by decide))), h.dl, h.ne⟩
theorem is28_new (w : World) (va : Array Value) : Is28 (w.alloc (.cells va 28)) w.heap.size := ⟨va, (0, 0), heap_alloc_new w _⟩
theorem Is28.below {w w1 : World} {Z B : Nat} (h : Is28 w Z) (hb : Below B w w1) (hZ : Z < B) : Is28 w1 Z := h.of (hb.block Z hZ)
theorem CC.below {w w1 : World} {C B : Nat} {v0 v1 v2 v3 v4 : Value} (h : CC w C v0 v1 v2 v3 v4) (hb : Below B w w1) (hC : C < B) : CC w1 C v0 v1 v2 v3 v4 := h.of_block (hb.block C hC)
theorem CC.new (w : World) (v0 v1 v2 v3 v4 : Value) : CC (w.alloc (.cells #[v0, v1, v2, v3, v4] 28)) w.heap.size v0 v1 v2 v3 v4 :=
  ⟨box1_at _ _ _ _ _ rfl, box1_at _ _ _ _ _ rfl, box1_at _ _ _ _ _ rfl, box1_at _ _ _ _ _ rfl, box1_at _ _ _ _ _ rfl, fun j => alloc_free _ _ _ _⟩

/-- Where a walk over a container's own lists stands: the parameter's variable X, the result's Z. -/
structure OSt (w0 w : World) (B : Nat) (X Z : Nat) (T C S D : Value) (c : Cont) : Prop where
  below : Below B w0 w
  p : PC3 w B w.heap.size T C S D c
  x : CC w X T C S D (.int .i64 c.size)
  z : CC w Z (.slice none 0 0) (.slice none 0 0) (.slice none 0 0) (.slice none 0 0) (.int .i64 0)
  x28 : Is28 w X
  z28 : Is28 w Z
  xz : X ≠ Z
  bx : B ≤ X
  bz : B ≤ Z
theorem OSt.start (w : World) {lo hi : Nat} {T C S D : Value} {c : Cont} (h : PC3 w lo hi T C S D c) (hh : hi ≤ w.heap.size) (hl : lo ≤ hi) : OSt w ((w.alloc (.cells #[T, C, S, D, .int .i64 c.size] 28)).alloc (.cells #[.slice none 0 0, .slice none 0 0, .slice none 0 0, .slice none 0 0, .int .i64 0] 28)) lo w.heap.size (w.heap.size + 1) T C S D c := by
  have s1 : (w.alloc (.cells #[T, C, S, D, .int .i64 c.size] 28)).heap.size = w.heap.size + 1 := by simp
  have hb := below_alloc w (.cells #[T, C, S, D, .int .i64 c.size] 28)
  have hb2 := below_alloc (w.alloc (.cells #[T, C, S, D, .int .i64 c.size] 28)) (.cells #[.slice none 0 0, .slice none 0 0, .slice none 0 0, .slice none 0 0, .int .i64 0] 28)
  have hb3 := below_step hb hb2
  refine ⟨below_trans (Below.refl _ _) (by omega) hb3, (h.below hb3).up (by simp; omega), (CC.new w _ _ _ _ _).below hb2 (by omega), ?_, (is28_new w _).below hb2 (by omega), ?_, by omega, by omega, by omega⟩
  · rw [← s1]; exact CC.new _ _ _ _ _ _
  · rw [← s1]; exact is28_new _ _
theorem PartsI.cell {w : World} {lo hi g n cap : Nat} {ll : List (List Int)} (h : PartsI w lo hi (.slice (some ⟨g, 0, none⟩) n cap) ll) (hj : 0 < ll.length) : ∃ p, w.cell? ⟨g, 0, none⟩ = some p ∧ w.ownsRow lo 5 1 p (ll.getD 0 []).length (nums .u8 (ll.getD 0 [])) ∧ w.frozen? ⟨g, 0, none⟩ = false := by
  obtain ⟨vs, h, _⟩ := h
  have hn : n = ll.length := by
    rcases h.own.2 with ⟨e, _⟩ | ⟨g', cap', cur, e, _⟩
    · simp at e
    · simp at e; exact e.2.1
  subst hn
  refine ⟨vs.getD 0 undef, ?_, h.each 0 hj, h.own.frozenAt 0⟩
  rw [h.own.cellAt 0 (by omega)]
  simp [List.getD_eq_getElem?_getD, show 0 < vs.length by have := h.len; omega]
theorem PartsI.shape {w : World} {lo hi n cap : Nat} {A : Option Addr} {ll : List (List Int)} (h : PartsI w lo hi (.slice A n cap) ll) (hj : 0 < ll.length) : ∃ g, A = some ⟨g, 0, none⟩ := by
  obtain ⟨vs, h, _⟩ := h
  rcases h.own.2 with ⟨_, e⟩ | ⟨g', cap', cur, e, _⟩
  · omega
  · simp at e; exact ⟨g', e.1⟩
theorem RowI.shape {w : World} {lo e s n cap : Nat} {A : Option Addr} {xs : List Value} (h : w.ownsRow lo e s (.slice A n cap) n xs) (hj : 0 < n) : ∃ g, A = some ⟨g, 0, none⟩ := by
  rcases h.2 with ⟨_, e⟩ | ⟨g', cap', cur, e, _⟩
  · omega
  · simp at e; exact ⟨g', e.1⟩
/-- The state, the first section replaced. -/
theorem OSt.code {w0 w w2 : World} {B X Z g cap b : Nat} {T S D p : Value} {c : Cont} {l : List Int} (h : OSt w0 w B X Z T (.slice (some ⟨g, 0, none⟩) c.codes.length cap) S D c) (hj : 0 < c.codes.length) (hb : Below w.heap.size w w2) (hp : w2.ownsRow w.heap.size 5 1 p l.length (nums .u8 l)) :
    OSt w0 (w2.setCell ⟨g, 0, none⟩ p) B X Z T (.slice (some ⟨g, 0, none⟩) c.codes.length cap) S D { c with codes := c.codes.set 0 l } := by
  have hX : X < w.heap.size := h.x.lt
  have hZ : Z < w.heap.size := h.z.lt
  have hs : (w2.setCell ⟨g, 0, none⟩ p).heap.size = w2.heap.size := by simp [World.setCell]
  obtain ⟨vs, ho⟩ := h.p.cs.own
  have hgX : X ≠ g := fun e => h.x28.off ho (by decide) (by rw [e]; rfl)
  have hgZ : Z ≠ g := fun e => h.z28.off ho (by decide) (by rw [e]; rfl)
  have hgB : B ≤ g := own_ge ho g rfl
  refine ⟨(below_trans h.below (by have := h.bx; omega) hb).grown (grown_setCell _ _ _ _) (by have := h.bx; have := hb.size; omega) (by rintro k ⟨⟩; exact hgB), ?_, (h.x.below hb hX).of_block (set_block p hgX), (h.z.below hb hZ).of_block (set_block p hgZ), (h.x28.below hb hX).set _ _, (h.z28.below hb hZ).set _ _, h.xz, h.bx, h.bz⟩
  rw [hs]
  exact (h.p.below hb).code hj hp (by have := h.bx; omega) (Nat.le_refl _) hb.size (fun k hk => own_lt hp k hk)
/-- The state, the first nested container replaced. -/
theorem OSt.sub {w0 w w2 : World} {B X Z g cap b : Nat} {T C D p : Value} {c : Cont} {l : List Int} (h : OSt w0 w B X Z T C (.slice (some ⟨g, 0, none⟩) c.subs.length cap) D c) (hj : 0 < c.subs.length) (hb : Below w.heap.size w w2) (hp : w2.ownsRow w.heap.size 5 1 p l.length (nums .u8 l)) :
    OSt w0 (w2.setCell ⟨g, 0, none⟩ p) B X Z T C (.slice (some ⟨g, 0, none⟩) c.subs.length cap) D { c with subs := c.subs.set 0 l } := by
  have hX : X < w.heap.size := h.x.lt
  have hZ : Z < w.heap.size := h.z.lt
  have hs : (w2.setCell ⟨g, 0, none⟩ p).heap.size = w2.heap.size := by simp [World.setCell]
  obtain ⟨vs, ho⟩ := h.p.ss.own
  have hgX : X ≠ g := fun e => h.x28.off ho (by decide) (by rw [e]; rfl)
  have hgZ : Z ≠ g := fun e => h.z28.off ho (by decide) (by rw [e]; rfl)
  have hgB : B ≤ g := own_ge ho g rfl
  refine ⟨(below_trans h.below (by have := h.bx; omega) hb).grown (grown_setCell _ _ _ _) (by have := h.bx; have := hb.size; omega) (by rintro k ⟨⟩; exact hgB), ?_, (h.x.below hb hX).of_block (set_block p hgX), (h.z.below hb hZ).of_block (set_block p hgZ), (h.x28.below hb hX).set _ _, (h.z28.below hb hZ).set _ _, h.xz, h.bx, h.bz⟩
  rw [hs]
  exact (h.p.below hb).sub hj hp (by have := h.bx; omega) (Nat.le_refl _) hb.size (fun k hk => own_lt hp k hk)
/-- The state, the last type's height replaced. -/
theorem OSt.most {w0 w : World} {B X Z g cap : Nat} {C S D : Value} {c : Cont} (h : OSt w0 w B X Z (.slice (some ⟨g, 0, none⟩) c.types.length cap) C S D c) (j : Nat) (hj : j < c.types.length) (m : Int) :
    OSt w0 (w.setCell ⟨g, j * 3 + 2, none⟩ (.int .i64 m)) B X Z (.slice (some ⟨g, 0, none⟩) c.types.length cap) C S D { c with types := c.types.set j { c.types.getD j ty0 with m := m } } := by
  have hs : (w.setCell ⟨g, j * 3 + 2, none⟩ (.int .i64 m)).heap.size = w.heap.size := by simp [World.setCell]
  have hgX : X ≠ g := fun e => h.x28.off h.p.t (by decide) (by rw [e]; rfl)
  have hgZ : Z ≠ g := fun e => h.z28.off h.p.t (by decide) (by rw [e]; rfl)
  have hgB : B ≤ g := own_ge h.p.t g rfl
  refine ⟨h.below.grown (grown_setCell _ _ _ _) (by have := h.bx; have := h.x.lt; have := h.below.size; omega) (by rintro k ⟨⟩; exact hgB), ?_, h.x.of_block (set_block _ hgX), h.z.of_block (set_block _ hgZ), h.x28.set _ _, h.z28.set _ _, h.xz, h.bx, h.bz⟩
  rw [hs]
  exact h.p.most j hj m
end Go.Proofs.Ytkbboepopcebaaa
