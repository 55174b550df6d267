/- Where Parse stands: its variables, its reader; lemmas. -/
import Derived.Test.YtkbboepopcebaaaAC
import Derived.BigRegion
namespace Go.Proofs.Ytkbboepopcebaaa
open Go.RowKit

/-- The container's variable, cell by cell. -/
structure CC (w : World) (C : Nat) (v0 v1 v2 v3 v4 : Value) : Prop where
  c0 : w.cell? ⟨C, 0, none⟩ = some v0
  c1 : w.cell? ⟨C, 1, none⟩ = some v1
  c2 : w.cell? ⟨C, 2, none⟩ = some v2
  c3 : w.cell? ⟨C, 3, none⟩ = some v3
  c4 : w.cell? ⟨C, 4, none⟩ = some v4
  free : ∀ j, w.frozen? ⟨C, j, none⟩ = false
/-- The refusal's variable: nothing is refused. -/
structure EE (w : World) (E : Nat) : Prop where
  e0 : w.cell? ⟨E, 0, none⟩ = some (.int .i64 0)
  e1 : w.cell? ⟨E, 1, none⟩ = some (.slice none 0 0)
  e2 : w.cell? ⟨E, 2, none⟩ = some (.int .i64 0)
  e3 : w.cell? ⟨E, 3, none⟩ = some (.int .i64 0)
  free : ∀ j, w.frozen? ⟨E, j, none⟩ = false
theorem CC.lt {w : World} {C : Nat} {v0 v1 v2 v3 v4 : Value} (h : CC w C v0 v1 v2 v3 v4) : C < w.heap.size := World.block_lt_of_cell? w _ h.c0
theorem EE.lt {w : World} {E : Nat} (h : EE w E) : E < w.heap.size := World.block_lt_of_cell? w _ h.e0
theorem CC.of_block {w w1 : World} {C : Nat} {v0 v1 v2 v3 v4 : Value} (h : CC w C v0 v1 v2 v3 v4) (hb : w1.heap[C]? = w.heap[C]?) : CC w1 C v0 v1 v2 v3 v4 :=
  ⟨(World.cell?_of_block (w := w) hb).trans h.c0, (World.cell?_of_block (w := w) hb).trans h.c1, (World.cell?_of_block (w := w) hb).trans h.c2, (World.cell?_of_block (w := w) hb).trans h.c3, (World.cell?_of_block (w := w) hb).trans h.c4, fun j => (World.frozen?_of_block (w := w) hb).trans (h.free j)⟩
theorem EE.of_block {w w1 : World} {E : Nat} (h : EE w E) (hb : w1.heap[E]? = w.heap[E]?) : EE w1 E :=
  ⟨(World.cell?_of_block (w := w) hb).trans h.e0, (World.cell?_of_block (w := w) hb).trans h.e1, (World.cell?_of_block (w := w) hb).trans h.e2, (World.cell?_of_block (w := w) hb).trans h.e3, fun j => (World.frozen?_of_block (w := w) hb).trans (h.free j)⟩
theorem CC.set4 {w : World} {C : Nat} {v0 v1 v2 v3 v4 : Value} (h : CC w C v0 v1 v2 v3 v4) (v : Value) : CC (w.setCell ⟨C, 4, none⟩ v) C v0 v1 v2 v3 v :=
  ⟨by rw [World.cell?_setCell_other _ _ _ _ (by simp)]; exact h.c0, by rw [World.cell?_setCell_other _ _ _ _ (by simp)]; exact h.c1, by rw [World.cell?_setCell_other _ _ _ _ (by simp)]; exact h.c2, by rw [World.cell?_setCell_other _ _ _ _ (by simp)]; exact h.c3, World.cell?_setCell_same _ _ _ h.c4, fun j => by rw [World.frozen?_setCell]; exact h.free j⟩
theorem CC.set3 {w : World} {C : Nat} {v0 v1 v2 v3 v4 : Value} (h : CC w C v0 v1 v2 v3 v4) (v : Value) : CC (w.setCell ⟨C, 3, none⟩ v) C v0 v1 v2 v v4 :=
  ⟨by rw [World.cell?_setCell_other _ _ _ _ (by simp)]; exact h.c0, by rw [World.cell?_setCell_other _ _ _ _ (by simp)]; exact h.c1, by rw [World.cell?_setCell_other _ _ _ _ (by simp)]; exact h.c2, World.cell?_setCell_same _ _ _ h.c3, by rw [World.cell?_setCell_other _ _ _ _ (by simp)]; exact h.c4, fun j => by rw [World.frozen?_setCell]; exact h.free j⟩
theorem CC.set2 {w : World} {C : Nat} {v0 v1 v2 v3 v4 : Value} (h : CC w C v0 v1 v2 v3 v4) (v : Value) : CC (w.setCell ⟨C, 2, none⟩ v) C v0 v1 v v3 v4 :=
  ⟨by rw [World.cell?_setCell_other _ _ _ _ (by simp)]; exact h.c0, by rw [World.cell?_setCell_other _ _ _ _ (by simp)]; exact h.c1, World.cell?_setCell_same _ _ _ h.c2, by rw [World.cell?_setCell_other _ _ _ _ (by simp)]; exact h.c3, by rw [World.cell?_setCell_other _ _ _ _ (by simp)]; exact h.c4, fun j => by rw [World.frozen?_setCell]; exact h.free j⟩
theorem CC.set1 {w : World} {C : Nat} {v0 v1 v2 v3 v4 : Value} (h : CC w C v0 v1 v2 v3 v4) (v : Value) : CC (w.setCell ⟨C, 1, none⟩ v) C v0 v v2 v3 v4 :=
  ⟨by rw [World.cell?_setCell_other _ _ _ _ (by simp)]; exact h.c0, World.cell?_setCell_same _ _ _ h.c1, by rw [World.cell?_setCell_other _ _ _ _ (by simp)]; exact h.c2, by rw [World.cell?_setCell_other _ _ _ _ (by simp)]; exact h.c3, by rw [World.cell?_setCell_other _ _ _ _ (by simp)]; exact h.c4, fun j => by rw [World.frozen?_setCell]; exact h.free j⟩
theorem set_block {w : World} {C E o : Nat} (v : Value) (h : E ≠ C) : (w.setCell ⟨C, o, none⟩ v).heap[E]? = w.heap[E]? := Below.heap_setCell w _ _ E (by simpa using h)

/-- Where Parse stands: the result variables, the reader, and nothing older turned. -/
structure PSx (w0 w : World) (C E R : Nat) (A : Option Addr) (n c : Nat) (a : Int) (v0 v1 v2 v3 v4 : Value) : Prop where
  below : Below w0.heap.size w0 w
  rd : RdAt w R A n c a
  cc : CC w C v0 v1 v2 v3 v4
  ee : EE w E
  c : w0.heap.size ≤ C
  e : w0.heap.size ≤ E
  r : w0.heap.size ≤ R
  cr : C ≠ R
  er : E ≠ R
  ce : C ≠ E
section
variable {b : List Int} {o : Bool} {w0 w w1 : World} {C E R : Nat} {A : Option Addr} {n c : Nat} {a a' : Int} {t : Array Value} {x y : Int} {v0 v1 v2 v3 v4 : Value}
theorem PSx.vars (h : PSx w0 w C E R A n c a v0 v1 v2 v3 v4) : Vars w C E := by
  refine ⟨fun j hj => ?_, fun j hj => ?_, h.cc.free, h.ee.free, h.ce⟩
  · rcases (show j = 0 ∨ j = 1 ∨ j = 2 ∨ j = 3 ∨ j = 4 by omega) with rfl | rfl | rfl | rfl | rfl
    · exact ⟨_, h.cc.c0⟩
    · exact ⟨_, h.cc.c1⟩
    · exact ⟨_, h.cc.c2⟩
    · exact ⟨_, h.cc.c3⟩
    · exact ⟨_, h.cc.c4⟩
  · rcases (show j = 0 ∨ j = 1 ∨ j = 2 ∨ j = 3 by omega) with rfl | rfl | rfl | rfl
    · exact ⟨_, h.ee.e0⟩
    · exact ⟨_, h.ee.e1⟩
    · exact ⟨_, h.ee.e2⟩
    · exact ⟨_, h.ee.e3⟩
theorem PSx.next (h : PSx w0 w C E R A n c a v0 v1 v2 v3 v4) (hg : w.grownBy w1 (some R)) (hr : RdAt w1 R A n c a') : PSx w0 w1 C E R A n c a' v0 v1 v2 v3 v4 :=
  ⟨h.below.grown hg h.below.size (by rintro k ⟨⟩; exact h.r), hr, h.cc.of_block (hg.block C h.cc.lt (by simpa using h.cr)), h.ee.of_block (hg.block E h.ee.lt (by simpa using h.er)), h.c, h.e, h.r, h.cr, h.er, h.ce⟩
theorem PSx.at (h : PSx w0 w C E R A n c a v0 v1 v2 v3 v4) (e : a = a') : PSx w0 w C E R A n c a' v0 v1 v2 v3 v4 := e ▸ h
theorem PSx.bad (h : PSx w0 w C E R A n c a v0 v1 v2 v3 v4) (hg : w.grownBy w1 (some R)) (hp : parse b o = .error (x, y)) (h4 : t[4]?.getD undef = .pointer (some ⟨C, 0, none⟩)) (h5 : t[5]?.getD undef = .pointer (some ⟨E, 0, none⟩)) :
    bodyPostD Try.prog Try.f29 (PPost b o w0) (Exit.panic [wrongV x y]) { tmps := t, defers := [{ target := Target.fn (Fn.func 51) #[.pointer (some ⟨C, 0, none⟩), .pointer (some ⟨E, 0, none⟩)], args := #[] }] } w1 :=
  parse_bad hp h4 h5 (h.vars.grown hg h.cr h.er) (h.below.grown hg h.below.size (by rintro k ⟨⟩; exact h.r)) h.c h.e
end
theorem PSx.start (w : World) (A : Option Addr) (n c : Nat) : PSx w (W3 w A n c) w.heap.size (w.heap.size + 1) (w.heap.size + 1 + 1) A n c 0 (.slice none 0 0) (.slice none 0 0) (.slice none 0 0) (.slice none 0 0) (.int .i64 0) := by
  have s1 : (w.alloc (.cells #[.slice none 0 0, .slice none 0 0, .slice none 0 0, .slice none 0 0, .int .i64 0] 28)).heap.size = w.heap.size + 1 := by simp
  obtain ⟨w1, h1⟩ : ∃ w1, w1 = w.alloc (.cells #[.slice none 0 0, .slice none 0 0, .slice none 0 0, .slice none 0 0, .int .i64 0] 28) := ⟨_, rfl⟩
  obtain ⟨w2, h2⟩ : ∃ w2, w2 = w1.alloc (.cells #[.int .i64 0, .slice none 0 0, .int .i64 0, .int .i64 0] 43) := ⟨_, rfl⟩
  have s1' : w1.heap.size = w.heap.size + 1 := by rw [h1]; simp
  have s2' : w2.heap.size = w.heap.size + 1 + 1 := by rw [h2]; simp [s1']
  have hs := PSt.start w A n c
  have e3 : W3 w A n c = w2.alloc (.cells #[.slice A n c, .int .i64 0] 86) := by rw [h2, h1]; rfl
  rw [e3] at hs ⊢
  have b2 : Below w1.heap.size w1 w2 := by rw [h2]; exact below_alloc _ _
  have b3 : Below w2.heap.size w2 (w2.alloc (.cells #[.slice A n c, .int .i64 0] 86)) := below_alloc _ _
  have b13 := below_step b2 b3
  refine ⟨hs.below, hs.rd, ⟨?_, ?_, ?_, ?_, ?_, hs.vars.fc⟩, ⟨?_, ?_, ?_, ?_, hs.vars.fe⟩, hs.c, hs.e, hs.r, hs.cr, hs.er, hs.vars.ne⟩
  · exact cell_keep b13 (by rw [h1]; exact box1_at _ _ _ _ _ rfl)
  · exact cell_keep b13 (by rw [h1]; exact box1_at _ _ _ _ _ rfl)
  · exact cell_keep b13 (by rw [h1]; exact box1_at _ _ _ _ _ rfl)
  · exact cell_keep b13 (by rw [h1]; exact box1_at _ _ _ _ _ rfl)
  · exact cell_keep b13 (by rw [h1]; exact box1_at _ _ _ _ _ rfl)
  · exact cell_keep b3 (by rw [h2, ← s1']; exact box1_at _ _ _ _ _ rfl)
  · exact cell_keep b3 (by rw [h2, ← s1']; exact box1_at _ _ _ _ _ rfl)
  · exact cell_keep b3 (by rw [h2, ← s1']; exact box1_at _ _ _ _ _ rfl)
  · exact cell_keep b3 (by rw [h2, ← s1']; exact box1_at _ _ _ _ _ rfl)

/-- A list of lengths, of the call's own, made behind the blocks of Parse. -/
def Lst (w : World) (M : Nat) (v : Value) (l : List Int) : Prop := ∃ B, M < B ∧ w.ownsRow B 3 1 v l.length (nums .i64 l)
theorem Lst.grown {w w1 : World} {M R : Nat} {v : Value} {l : List Int} (h : Lst w M v l) (hg : w.grownBy w1 (some R)) (hR : R ≤ M) : Lst w1 M v l := by
  obtain ⟨B, hB, ho⟩ := h
  exact ⟨B, hB, own_other ho hg (.inr fun e => by have := own_ge ho R e; omega)⟩
theorem Two.row {w w1 : World} {R C M e s n : Nat} {v : Value} {xs : List Value} (h : Two w w1 R C) (ho : w.ownsRow M e s v n xs) (hR : R < M) (hC : C < M) : w1.ownsRow M e s v n xs := by
  have hg : w.grownBy w1 v.ownBlock → w1.ownsRow M e s v n xs := fun _ => by
    rcases ho.2 with h0 | ⟨g, cap, cur, rfl, hg, hh, hr⟩
    · exact ⟨ho.1, .inl h0⟩
    · have hlt : g < w.heap.size := (ho.lt g rfl).2
      exact ⟨ho.1, .inr ⟨g, cap, cur, rfl, hg, (h.block g hlt (by omega) (by omega)).trans hh, hr⟩⟩
  rcases ho.2 with h0 | ⟨g, cap, cur, rfl, hg', hh, hr⟩
  · exact ⟨ho.1, .inl h0⟩
  · have hlt : g < w.heap.size := (ho.lt g rfl).2
    exact ⟨ho.1, .inr ⟨g, cap, cur, rfl, hg', (h.block g hlt (by omega) (by omega)).trans hh, hr⟩⟩
theorem Lst.two {w w1 : World} {M R C : Nat} {v : Value} {l : List Int} (h : Lst w M v l) (hg : Two w w1 R C) (hR : R ≤ M) (hC : C ≤ M) : Lst w1 M v l := by
  obtain ⟨B, hB, ho⟩ := h
  exact ⟨B, hB, hg.row ho (by omega) (by omega)⟩
theorem Lst.nil (w : World) (M : Nat) : Lst w M (.slice none 0 0) [] := ⟨M + 1, by omega, World.ownsRow_nil _ _ _ _⟩
theorem Lst.reads {w : World} {M : Nat} {v : Value} {l : List Int} (h : Lst w M v l) (hr : l.length ≤ reach) : ∃ L cc, v = .slice L l.length cc ∧ NumsR w .i64 L l ∧ ∀ b o, L = some ⟨b, o, none⟩ → M < b := by
  obtain ⟨B, hB, ho⟩ := h
  obtain ⟨L, cc, rfl, _, _, hn⟩ := own_nums ho hr
  refine ⟨L, cc, rfl, hn, fun b o e => ?_⟩
  subst e
  have := own_ge ho b rfl
  omega
theorem szs_len {b : List Int} {s : Nat} : ∀ {k a : Nat} {l : List Int}, szs b s k a = .ok l → l.length = k
  | 0, _, l, h => by simp only [szs, Except.ok.injEq] at h; subst h; rfl
  | k + 1, a, l, h => by
    simp only [szs] at h
    split at h
    · simp at h
    · split at h
      · simp at h
      · split at h
        · rename_i l' hl'
          simp only [Except.ok.injEq] at h
          subst h
          simp [szs_len hl']
        · simp at h
theorem szs_pos {b : List Int} {s : Nat} : ∀ {k a : Nat} {l : List Int}, szs b s k a = .ok l → ∀ x ∈ l, 1 ≤ x
  | 0, _, l, h => by simp only [szs, Except.ok.injEq] at h; subst h; simp
  | k + 1, a, l, h => by
    simp only [szs] at h
    split at h
    · simp at h
    · split at h
      · simp at h
      · rename_i hp
        split at h
        · rename_i l' hl'
          simp only [Except.ok.injEq] at h
          subst h
          intro x hx
          rcases List.mem_cons.1 hx with rfl | hx
          · omega
          · exact szs_pos hl' x hx
        · simp at h
theorem szs_sum {b : List Int} (hb : Byt b) {s : Nat} : ∀ {k a : Nat} {l : List Int}, szs b s k a = .ok l → l.sum ≤ k * 256 ^ s
  | 0, _, l, h => by simp only [szs, Except.ok.injEq] at h; subst h; simp
  | k + 1, a, l, h => by
    simp only [szs] at h
    split at h
    · simp at h
    · split at h
      · simp at h
      · split at h
        · rename_i l' hl'
          simp only [Except.ok.injEq] at h
          subst h
          have h1 := szs_sum hb hl'
          have h2 := (num_bd hb a s).2
          have h3 : ((k + 1 : Nat) : Int) * 256 ^ s = k * 256 ^ s + 256 ^ s := by rw [show ((k + 1 : Nat) : Int) = (k : Int) + 1 by omega, Int.add_mul, Int.one_mul]
          rw [List.sum_cons, h3]
          omega
        · simp at h
theorem szs_ge {b : List Int} {s : Nat} : ∀ {k a : Nat} {l : List Int}, szs b s k a = .ok l → a ≤ b.length → a + k * s ≤ b.length
  | 0, _, l, h, h0 => by simpa using h0
  | k + 1, a, l, h, h0 => by
    simp only [szs] at h
    split at h
    · simp at h
    · split at h
      · simp at h
      · split at h
        · rename_i l' hl'
          have := szs_ge hl' (by omega)
          rw [Nat.add_mul]
          omega
        · simp at h
/-- The code from the k-th statement on. -/
def spine : Nat → Code → Code
  | 0, c => c
  | k + 1, .seq _ b => spine k b
  | _, c => c
noncomputable def rest29 (k : Nat) : Code := spine k (Try.f29.body.getD .skip)
end Go.Proofs.Ytkbboepopcebaaa
namespace Go.Proofs.Ytkbboepopcebaaa
open Go.RowKit

theorem cell0_of {w : World} {C j : Nat} {v : Value} (h : w.cell? ⟨C, j, none⟩ = some v) : ∃ u, w.cell? ⟨C, 0, none⟩ = some u := by
  unfold World.cell? at h ⊢
  split at h
  · rename_i cs e f hc
    simp at h
    have hj : j < cs.size := by
      rcases Nat.lt_or_ge j cs.size with h0 | h0
      · exact h0
      · rw [Array.getElem?_eq_none h0] at h; simp at h
    have hc2 : w.heap[({ block := C, off := 0, spot := none } : Addr).block]? = some (.cells cs e f) := hc
    rw [hc2]
    exact ⟨cs[0]'(by omega), by simp [show 0 < cs.size by omega]⟩
  · simp at h
section
variable {b : List Int} {o : Bool} {w0 w w1 : World} {C E R : Nat} {A : Option Addr} {n c : Nat} {a a' : Int} {t : Array Value} {x y : Int} {v0 v1 v2 v3 v4 : Value}
theorem PSx.bad2 (h : PSx w0 w C E R A n c a v0 v1 v2 v3 v4) (hg : Two w w1 R C) (hp : parse b o = .error (x, y)) (h4 : t[4]?.getD undef = .pointer (some ⟨C, 0, none⟩)) (h5 : t[5]?.getD undef = .pointer (some ⟨E, 0, none⟩)) :
    bodyPostD Try.prog Try.f29 (PPost b o w0) (Exit.panic [wrongV x y]) { tmps := t, defers := [{ target := Target.fn (Fn.func 51) #[.pointer (some ⟨C, 0, none⟩), .pointer (some ⟨E, 0, none⟩)], args := #[] }] } w1 := by
  have hE : EE w1 E := h.ee.of_block (hg.block E h.ee.lt h.er (fun e => h.ce e.symm))
  have k1 := (hg.cells 1 (by omega)).trans h.cc.c1
  obtain ⟨u, k0⟩ := cell0_of k1
  refine parse_bad hp h4 h5 ⟨fun j hj => ?_, fun j hj => ?_, fun j => (hg.free j).trans (h.cc.free j), hE.free, h.ce⟩ (hg.below h.below h.r h.c) h.c h.e
  · rcases (show j = 0 ∨ j = 1 ∨ j = 2 ∨ j = 3 ∨ j = 4 by omega) with rfl | rfl | rfl | rfl | rfl
    · exact ⟨_, k0⟩
    · exact ⟨_, k1⟩
    · exact ⟨_, (hg.cells 2 (by omega)).trans h.cc.c2⟩
    · exact ⟨_, (hg.cells 3 (by omega)).trans h.cc.c3⟩
    · exact ⟨_, (hg.cells 4 (by omega)).trans h.cc.c4⟩
  · rcases (show j = 0 ∨ j = 1 ∨ j = 2 ∨ j = 3 by omega) with rfl | rfl | rfl | rfl
    · exact ⟨_, hE.e0⟩
    · exact ⟨_, hE.e1⟩
    · exact ⟨_, hE.e2⟩
    · exact ⟨_, hE.e3⟩
theorem PSx.two (h : PSx w0 w C E R A n c a v0 v1 v2 v3 v4) (hg : Two w w1 R C) {v : Value} (hv : w1.cell? ⟨C, 0, none⟩ = some v) (hr : RdAt w1 R A n c a') : PSx w0 w1 C E R A n c a' v v1 v2 v3 v4 :=
  ⟨hg.below h.below h.r h.c, hr, ⟨hv, (hg.cells 1 (by omega)).trans h.cc.c1, (hg.cells 2 (by omega)).trans h.cc.c2, (hg.cells 3 (by omega)).trans h.cc.c3, (hg.cells 4 (by omega)).trans h.cc.c4, fun j => (hg.free j).trans (h.cc.free j)⟩, h.ee.of_block (hg.block E h.ee.lt h.er (fun e => h.ce e.symm)), h.c, h.e, h.r, h.cr, h.er, h.ce⟩
/-- A store to the container's variable. -/
theorem PSx.put (h : PSx w0 w C E R A n c a v0 v1 v2 v3 v4) {j : Nat} {v u0 u1 u2 u3 u4 : Value} (hc : CC (w.setCell ⟨C, j, none⟩ v) C u0 u1 u2 u3 u4) : PSx w0 (w.setCell ⟨C, j, none⟩ v) C E R A n c a u0 u1 u2 u3 u4 :=
  ⟨h.below.grown (grown_setCell w C j v) h.below.size (by rintro k ⟨⟩; exact h.c), rd_grown h.rd (grown_setCell w C j v) h.cr.symm, hc, h.ee.of_block (set_block v (fun e => h.ce e.symm)), h.c, h.e, h.r, h.cr, h.er, h.ce⟩
end

theorem PartsO.shape {w : World} {B : Nat} {v : Value} {ll : List (List Int)} (h : PartsO w B v ll) : ∃ A c, v = .slice A ll.length c := by
  obtain ⟨vs, h⟩ := h
  obtain ⟨A, c, e, _⟩ := own_shape h.own
  exact ⟨A, c, e⟩

theorem setCell_id {w : World} {a : Addr} {v : Value} (h : w.cell? a = some v) : w.setCell a v = w := by
  unfold World.cell? at h
  unfold World.setCell
  split at h
  · rename_i cs e f hc
    split at h
    · simp at h
    · rename_i hs
      have hlt : a.block < w.heap.size := by
        rcases Nat.lt_or_ge a.block w.heap.size with h0 | h0
        · exact h0
        · rw [Array.getElem?_eq_none h0] at hc; simp at hc
      have hj : a.off < cs.size := by
        rcases Nat.lt_or_ge a.off cs.size with h0 | h0
        · exact h0
        · rw [Array.getElem?_eq_none h0] at h; simp at h
      cases w with
      | mk heap tape drawn os output =>
        simp only at hc hlt ⊢
        congr 1
        apply Array.ext
        · simp
        · intro i h1 h2
          rw [Array.getElem_modify]
          split
          · rename_i hi
            subst hi
            rw [Array.getElem?_eq_getElem hlt] at hc
            rw [Option.some.inj hc]
            simp only [hs]
            congr 1
            rw [Array.getElem?_eq_getElem hj] at h
            rw [← Option.some.inj h]
            simp [Array.setIfInBounds, hj]
          · rfl
  · simp at h

set_option maxRecDepth 100000 in
set_option maxHeartbeats 8000000 in
theorem st28 (A : Option Addr) (n c : Nat) (o : Bool) (b : List Int) (w : World) (hb : NumsR w .u8 A b) (hy : Byt b) (hn : b.length = n) (hnc : n ≤ c) (C E R N a : Nat) (size : Int) (codes subs : List Int) (v10 v12 : Value) (x : World)
    (hs : PSx w x C E R A n c a (.slice none 0 0) (.slice none 0 0) (.slice none 0 0) (.slice none 0 0) (.int .i64 size)) (hCR : C < R) (hER : E < R) (h10 : Lst x R v10 codes) (h12 : Lst x R v12 subs) (hN : codes.length = N) (hN2 : N ≤ 1024) (ha : 1 ≤ a) (hM : subs.length ≤ 256) (hp1 : ∀ x ∈ codes, 1 ≤ x) (hp2 : ∀ x ∈ subs, 1 ≤ x)
    (hsum : (a : Int) + 4 * N + codes.sum + subs.sum ≤ n)
    (hp : parse b o = takeB (tysR b N true a) fun ts => .ok ⟨ts, cutL b codes (a + 4 * N), cutL b subs (a + 4 * N + codes.sum.toNat), b.drop (a + 4 * N + codes.sum.toNat + subs.sum.toNat), size⟩)
    (u7 u8 u11 u13 u14 u15 u16 u17 u18 u19 u20 u21 u22 u23 u24 u25 u26 u27 u28 u29 u30 u31 u32 u33 u34 u35 u36 u37 u38 u39 u40 u41 u42 u43 u44 u45 u46 u47 u48 u49 u50 u51 u52 u53 u54 u55 u56 u57 u58 u59 u60 u61 u62 u63 u64 u65 u66 u67 u68 u69 u70 u71 u72 u73 u74 u75 u76 u77 u78 u79 u80 u81 u82 u83 u84 u85 u86 u87 u88 u89 u90 u91 u92 u93 u94 u95 u96 u97 u98 u99 u100 u101 u102 u103 u104 u105 u106 u107 u108 u109 u110 u111 u112 u113 u114 u115 u116 u117 u118 u119 u120 u121 u122 u123 u124 u125 u126 u127 u128 u129 u130 u131 u132 u133 u134 u135 u136 u137 u138 u139 u140 u141 u142 u143 u144 u145 u146 u147 u148 u149 u150 u151 u152 u153 u154 u155 u156 u157 u158 : Value) :
    Code.wp Try.prog (rest29 23) (bodyPostD Try.prog Try.f29 (PPost b o w)) ⟨#[.slice A n c, .bool o, undef, undef, .pointer (some ⟨C, 0, none⟩), .pointer (some ⟨E, 0, none⟩), .pointer (some ⟨R, 0, none⟩), u7, u8, .int .i64 N, v10, u11, v12, u13, u14, u15, u16, u17, u18, u19, u20, u21, u22, u23, u24, u25, u26, u27, u28, u29, u30, u31, u32, u33, u34, u35, u36, u37, u38, u39, u40, u41, u42, u43, u44, u45, u46, u47, u48, u49, u50, u51, u52, u53, u54, u55, u56, u57, u58, u59, u60, u61, u62, u63, u64, u65, u66, u67, u68, u69, u70, u71, u72, u73, u74, u75, u76, u77, u78, u79, u80, u81, u82, u83, u84, u85, u86, u87, u88, u89, u90, u91, u92, u93, u94, u95, u96, u97, u98, u99, u100, u101, u102, u103, u104, u105, u106, u107, u108, u109, u110, u111, u112, u113, u114, u115, u116, u117, u118, u119, u120, u121, u122, u123, u124, u125, u126, u127, u128, u129, u130, u131, u132, u133, u134, u135, u136, u137, u138, u139, u140, u141, u142, u143, u144, u145, u146, u147, u148, u149, u150, u151, u152, u153, u154, u155, u156, u157, u158, undef, undef, undef, undef, undef, undef, undef, undef, undef, undef, undef, undef, undef, undef, undef, undef, undef, undef, undef, undef, undef], [{ target := .fn (.func 51) #[.pointer (some ⟨C, 0, none⟩), .pointer (some ⟨E, 0, none⟩)], args := #[] }]⟩ x := by
  have hmx : n ≤ 140737488351232 := by have := hb.1; unfold reach at *; omega
  have HBB := Lib.hid hb; clear hb
  have HY := Lib.hid hy; clear hy
  have HN := Lib.hid hn; clear hn
  have HS := Lib.hid hs; clear hs
  have HP := Lib.hid hp; clear hp
  have H10 := Lib.hid h10; clear h10
  have H12 := Lib.hid h12; clear h12
  have HNN := Lib.hid hN; clear hN
  have HP1 := Lib.hid hp1; clear hp1
  have HP2 := Lib.hid hp2; clear hp2
  have HSUM := Lib.hid hsum; clear hsum
  have s1 := sum_nonneg codes HP1.out
  have s2 := sum_nonneg subs HP2.out
  obtain ⟨k1, hk1⟩ : ∃ k : Nat, codes.sum = (k : Int) := ⟨codes.sum.toNat, by omega⟩
  obtain ⟨k2, hk2⟩ : ∃ k : Nat, subs.sum = (k : Int) := ⟨subs.sum.toNat, by omega⟩
  have HK1 := Lib.hid hk1; clear hk1
  have HK2 := Lib.hid hk2; clear hk2
  have hle : a + 4 * N + k1 + k2 ≤ n := by have := HSUM.out; have := HK1.out; have := HK2.out; omega
  have HLE := Lib.hid hle
  clear s1 s2 hle
  conv => arg 2; whnf
  go_wp2_with fail
  refine (types_any w R A n c N a C b x HBB.out HY.out HN.out HS.out.below HS.out.r HS.out.c HS.out.cr HS.out.rd HS.out.cc.c0 (HS.out.cc.free 0) (by have := HLE.out; omega) (by omega)).mono ?_
  rintro e y1 ⟨htw, hpost⟩
  rcases htt : tysR b N true a with ⟨e1, e2⟩ | ts
  · rw [htt] at hpost
    obtain rfl := hpost
    exact HS.out.bad2 htw (HP.out.trans (by rw [htt]; rfl)) rfl rfl
  rw [htt] at hpost
  obtain ⟨rfl, ⟨vT, hvT, hoT⟩, hrd⟩ := hpost
  have HS1 := Lib.hid (HS.out.two htw hvT hrd)
  have HT1 := Lib.hid hoT
  have H101 := Lib.hid (H10.out.two htw (Nat.le_refl _) (by omega))
  have H121 := Lib.hid (H12.out.two htw (Nat.le_refl _) (by omega))
  have HSZ : Hid (w.heap.size ≤ x.heap.size) := Lib.hid HS.out.below.size
  have htz := htw.size
  have hCx := HS.out.cc.lt
  have HSR : Hid (R < x.heap.size) := Lib.hid (World.block_lt_of_cell? x _ HS.out.rd.place)
  have HPA := Lib.hid (HP.out.trans (by rw [htt]; rfl : _ = Except.ok (Cont.mk ts (cutL b codes (a + 4 * N)) (cutL b subs (a + 4 * N + codes.sum.toNat)) (b.drop (a + 4 * N + codes.sum.toNat + subs.sum.toNat)) size)))
  clear HS HP H10 H12 htw hvT hrd hoT htt
  obtain ⟨L, cc, rfl, hL, hLb⟩ := H101.out.reads (by have := HNN.out; unfold reach; omega)
  have c1 := HS1.out.cc.c1
  have f1 := HS1.out.cc.free 1
  have HL := Lib.hid hL
  have HLB := Lib.hid hLb
  clear hL hLb
  go_wp2_with fail
  refine (cut_any w R A n c codes.length cc (a + 4 * N) L codes b y1 HBB.out HN.out hnc HS1.out.below HS1.out.r (by have := HS1.out.rd; rwa [show ((a + 4 * N : Nat) : Int) = (a : Int) + 4 * N by omega]) rfl (by have := HNN.out; omega) HL.out (fun b' o' e => by have := HLB.out b' o' e; omega) HP1.out (by have := HLE.out; have := HK1.out; omega)).mono ?_
  rintro e y2 ⟨vC, rfl, hoC, hrd, hg⟩
  have HS2 := Lib.hid (HS1.out.next hg hrd)
  have HC2 := Lib.hid hoC
  have HG2 := Lib.hid hg
  obtain ⟨A9, c9, rfl⟩ := hoC.shape
  have HZ1 : Hid (x.heap.size ≤ y1.heap.size) := Lib.hid htz
  have HZ2 : Hid (y1.heap.size ≤ y2.heap.size) := Lib.hid hg.size
  have HCX : Hid (C < x.heap.size) := Lib.hid hCx
  have HT2 := Lib.hid (own_other HT1.out hg (.inr fun e => by have := own_ge HT1.out R e; have := HSR.out; omega))
  have H122 := Lib.hid (H121.out.grown hg (Nat.le_refl _))
  have c1 := HS2.out.cc.c1
  have f1 := HS2.out.cc.free 1
  clear hg hrd hoC HT1 H121 H101 HL HLB HG2 HS1 hCx htz
  go_wp2_with fail
  have HS3 := Lib.hid (HS2.out.put (HS2.out.cc.set1 (.slice A9 (cutL b codes (a + 4 * N)).length c9)))
  have hgs := grown_setCell y2 C 1 (.slice A9 (cutL b codes (a + 4 * N)).length c9)
  have HC3 := Lib.hid (HC2.out.other hgs (by have := HCX.out; have := HZ1.out; omega))
  have HT3 := Lib.hid (own_other HT2.out hgs (.inr fun e => by have := own_ge HT2.out C e; have := HCX.out; omega))
  have H123 := Lib.hid (H122.out.grown hgs (by omega))
  have hz3 : (y2.setCell ⟨C, 1, none⟩ (.slice A9 (cutL b codes (a + 4 * N)).length c9)).heap.size = y2.heap.size := by simp [World.setCell]
  obtain ⟨y3, hy3⟩ : ∃ y3, y3 = y2.setCell ⟨C, 1, none⟩ (.slice A9 (cutL b codes (a + 4 * N)).length c9) := ⟨_, rfl⟩
  rw [← hy3] at HS3 HC3 HT3 H123 hz3 ⊢
  have HZ3 := Lib.hid hz3
  clear hz3 hy3 HS2 HC2 HT2 H122 hgs c1 f1
  obtain ⟨L2, cc2, rfl, hL, hLb⟩ := H123.out.reads (by unfold reach; omega)
  refine (cut_any w R A n c subs.length cc2 (a + 4 * N + k1) L2 subs b y3 HBB.out HN.out hnc HS3.out.below HS3.out.r (by have := HS3.out.rd; rwa [show ((a + 4 * N + k1 : Nat) : Int) = (a : Int) + 4 * N + codes.sum by have := HK1.out; omega]) rfl (by omega) hL (fun b' o' e => by have := hLb b' o' e; omega) HP2.out (by have := HLE.out; have := HK2.out; omega)).mono ?_
  clear hL hLb H123
  rintro e y4 ⟨vS, rfl, hoS, hrd, hg⟩
  have HS4 := Lib.hid (HS3.out.next hg hrd)
  obtain ⟨A8, c8, rfl⟩ := hoS.shape
  have HO4 := Lib.hid hoS
  have HC4 := Lib.hid (HC3.out.other hg (by have := HSR.out; have := HZ1.out; omega))
  have HT4 := Lib.hid (own_other HT3.out hg (.inr fun e => by have := own_ge HT3.out R e; have := HSR.out; omega))
  have HZ4 : Hid (y3.heap.size ≤ y4.heap.size) := Lib.hid hg.size
  have c2 := HS4.out.cc.c2
  have f2 := HS4.out.cc.free 2
  clear hg hrd hoS HS3 HC3 HT3
  go_upto_region 31 with (fail)
  have HS5 := Lib.hid (HS4.out.put (HS4.out.cc.set2 (.slice A8 (cutL b subs (a + 4 * N + k1)).length c8)))
  have hgs := grown_setCell y4 C 2 (.slice A8 (cutL b subs (a + 4 * N + k1)).length c8)
  have HO5 := Lib.hid (HO4.out.other hgs (by have := HCX.out; have := HZ1.out; have := HZ2.out; have := HZ3.out; omega))
  have HC5 := Lib.hid (HC4.out.other hgs (by have := HCX.out; have := HZ1.out; omega))
  have HT5 := Lib.hid (own_other HT4.out hgs (.inr fun e => by have := own_ge HT4.out C e; have := HCX.out; omega))
  obtain ⟨y5, hy5⟩ : ∃ y5, y5 = y4.setCell ⟨C, 2, none⟩ (.slice A8 (cutL b subs (a + 4 * N + k1)).length c8) := ⟨_, rfl⟩
  rw [← hy5] at HS5 HO5 HC5 HT5 ⊢
  clear hy5 HS4 HO4 HC4 HT4 hgs c2 f2
  obtain ⟨p, hp⟩ : ∃ p : Nat, p = a + 4 * N + k1 + k2 := ⟨_, rfl⟩
  have hpi : ((a + 4 * N + k1 : Nat) : Int) + subs.sum = (p : Int) := by have := HK2.out; omega
  have r1 := HS5.out.rd.place
  rw [hpi] at r1
  have hpn : p ≤ n := by have := HLE.out; omega
  obtain ⟨b1, o1, hA, _⟩ := HBB.out.2 (by have := HN.out; omega)
  subst hA
  have hpc := NumsR.piece (HBB.out.mono HS5.out.below) p (n - p) (by have := HN.out; omega)
  have hpl : ((b.drop p).take (n - p)) = b.drop p := List.take_of_length_le (by have := HN.out; simp; omega)
  rw [hpl] at hpc
  have hdl : (b.drop p).length = n - p := by have := HN.out; simp; omega
  have i0 : (0 : Int) ≤ (p : Int) := by omega
  have i1 : (p : Int) ≤ (n : Int) := by omega
  have HPI := Lib.hid hp
  have HPC := Lib.hid hpc
  have HDL := Lib.hid hdl
  clear hp hpi hpc hpl hdl
  obtain ⟨l, hl⟩ : ∃ l, l = b.drop p := ⟨_, rfl⟩
  rw [← hl] at HPC HDL
  have HLDD := Lib.hid hl
  clear hl
  obtain ⟨A7, c7, hT7, _⟩ := own_shape HT5.out
  subst hT7
  by_cases hcp : c = p
  · have hcl := clone_any (.slice (some ⟨b1, o1, none⟩) 0 0) [] y5 ⟨_, 0, rfl, by simp, by simp, NumsR.nil _ _ _⟩
    rw [show ([] : List Int) = l from (List.eq_nil_of_length_eq_zero (by have := HDL.out; omega)).symm] at hcl
    have HCL := Lib.hid hcl
    clear hcl
    subst hcp
    go_wp2_with fail
    refine HCL.out.mono ?_
    clear HCL
    rintro e y6 ⟨vD, rfl, hoD, hb⟩
    have HS6 := Lib.hid (HS5.out.next (grown_of_below hb _) (rd_keep HS5.out.rd hb))
    obtain ⟨A6, c6, rfl, _⟩ := own_shape hoD
    have HO6 := Lib.hid (HO5.out.below hb)
    have HC6 := Lib.hid (HC5.out.below hb)
    have HT6 := Lib.hid (own_below HT5.out hb)
    have HD6 := Lib.hid hoD
    have HZ5 : Hid (C < y5.heap.size) := Lib.hid HS5.out.cc.lt
    have c3 := HS6.out.cc.c3
    have f3 := HS6.out.cc.free 3
    have HZ6 : Hid (w.heap.size ≤ y5.heap.size) := Lib.hid HS5.out.below.size
    clear hb hoD HS5 HO5 HC5 HT5
    go_upto_region 32 with (fail)
    have HS7 := Lib.hid (HS6.out.put (HS6.out.cc.set3 (.slice A6 l.length c6)))
    have hgs := grown_setCell y6 C 3 (.slice A6 l.length c6)
    have HO7 := Lib.hid (HO6.out.other hgs (by have := HCX.out; have := HZ1.out; have := HZ2.out; have := HZ3.out; omega))
    have HC7 := Lib.hid (HC6.out.other hgs (by have := HCX.out; have := HZ1.out; omega))
    have HT7 := Lib.hid (own_other HT6.out hgs (.inr fun e => by have := own_ge HT6.out C e; have := HCX.out; omega))
    have HD7 := Lib.hid (own_other HD6.out hgs (.inr fun e => by have := own_ge HD6.out C e; have := HZ5.out; omega))
    obtain ⟨y7, hy7⟩ : ∃ y7, y7 = y6.setCell ⟨C, 3, none⟩ (.slice A6 l.length c6) := ⟨_, rfl⟩
    rw [← hy7] at HS7 HO7 HC7 HT7 HD7 ⊢
    clear hy7 HS6 HO6 HC6 HT6 HD6 hgs c3 f3 r1
    obtain ⟨lc, hlc⟩ : ∃ lc, lc = (cutL b codes (a + 4 * N)).length := ⟨_, rfl⟩
    obtain ⟨ls, hls⟩ : ∃ ls, ls = (cutL b subs (a + 4 * N + k1)).length := ⟨_, rfl⟩
    obtain ⟨ld, hld⟩ : ∃ ld, ld = l.length := ⟨_, rfl⟩
    obtain ⟨lt, hlt⟩ : ∃ lt, lt = ts.length := ⟨_, rfl⟩
    have q0 := HS7.out.cc.c0
    have q1 := HS7.out.cc.c1
    have q2 := HS7.out.cc.c2
    have q3 := HS7.out.cc.c3
    have q4 := HS7.out.cc.c4
    have l0 := HS7.out.ee.e0
    have l1 := HS7.out.ee.e1
    have l2 := HS7.out.ee.e2
    have l3 := HS7.out.ee.e3
    have fC := HS7.out.cc.free
    have fE := HS7.out.ee.free
    have nCE : ¬ C = E := HS7.out.ce
    have nEC : ¬ E = C := fun e => HS7.out.ce e.symm
    rw [← hlc] at q1
    rw [← hls] at q2
    rw [← hld] at q3
    rw [← hlt] at q0
    have HLC := Lib.hid hlc
    have HLS := Lib.hid hls
    have HLD := Lib.hid hld
    have HLT := Lib.hid hlt
    clear hlc hls hld hlt
    go_region
    rw [setCell_id q0, setCell_id q1, setCell_id q2, setCell_id q3, setCell_id q4, setCell_id l0, setCell_id l1, setCell_id l2, setCell_id l3]
    have hP : PPost b o w (.returned (.tuple #[.agg #[.slice A7 lt c7, .slice A9 lc c9, .slice A8 ls c8, .slice A6 ld c6, .int .i64 size], rejV 0 0])) y7.drew := by
      refine ⟨HS7.out.below.drew, ?_⟩
      rw [HPA.out]
      refine ⟨_, rfl, ⟨.slice A7 lt c7, .slice A9 lc c9, .slice A8 ls c8, .slice A6 ld c6, rfl, ?_, ?_, ?_, ?_⟩⟩
      · rw [HLT.out]; exact own_base (own_below HT7.out (Below.refl _ _).drew) (by have := HSZ.out; omega)
      · rw [HLC.out]; exact (HC7.out.below (Below.refl _ _).drew).base (by have := HSZ.out; have := HZ1.out; omega)
      · rw [HLS.out, show codes.sum.toNat = k1 by have := HK1.out; omega]
        exact (HO7.out.below (Below.refl _ _).drew).base (by have := HSZ.out; have := HZ1.out; have := HZ2.out; have := HZ3.out; omega)
      · rw [HLD.out, show codes.sum.toNat = k1 by have := HK1.out; omega, show subs.sum.toNat = k2 by have := HK2.out; omega, ← HPI.out, ← HLDD.out]
        exact own_base (own_below HD7.out (Below.refl _ _).drew) HZ6.out
    have HPO := Lib.hid hP
    clear hP HPA HD7 HC7 HO7 HT7 HS7
    rename_i K1 h1
    refine h1 _ _ ?_
    clear h1
    go_step
    refine leaves_cons (f := 51) (args := #[.pointer (some ⟨C, 0, none⟩), .pointer (some ⟨E, 0, none⟩)]) (by simp) (by simp [go_sem]) ?_
    refine (catch_idle _ _ _).mono ?_
    rintro e u' w'' ⟨rfl, rfl, rfl⟩
    simp [Leaves, settle, results, Try.results29, go_sem, q0, q1, q2, q3, q4, l0, l1, l2, l3]
    exact HPO.out
  · have hcl := clone_any (.slice (some ⟨b1, o1 + p, none⟩) (n - p) (c - p)) l y5 ⟨_, c - p, by rw [HDL.out], by rw [HDL.out]; omega, by simp, HPC.out⟩
    have HCL := Lib.hid hcl
    clear hcl
    go_wp2_with fail
    refine HCL.out.mono ?_
    clear HCL
    rintro e y6 ⟨vD, rfl, hoD, hb⟩
    have HS6 := Lib.hid (HS5.out.next (grown_of_below hb _) (rd_keep HS5.out.rd hb))
    obtain ⟨A6, c6, rfl, _⟩ := own_shape hoD
    have HO6 := Lib.hid (HO5.out.below hb)
    have HC6 := Lib.hid (HC5.out.below hb)
    have HT6 := Lib.hid (own_below HT5.out hb)
    have HD6 := Lib.hid hoD
    have HZ5 : Hid (C < y5.heap.size) := Lib.hid HS5.out.cc.lt
    have c3 := HS6.out.cc.c3
    have f3 := HS6.out.cc.free 3
    have HZ6 : Hid (w.heap.size ≤ y5.heap.size) := Lib.hid HS5.out.below.size
    clear hb hoD HS5 HO5 HC5 HT5
    go_upto_region 32 with (fail)
    have HS7 := Lib.hid (HS6.out.put (HS6.out.cc.set3 (.slice A6 l.length c6)))
    have hgs := grown_setCell y6 C 3 (.slice A6 l.length c6)
    have HO7 := Lib.hid (HO6.out.other hgs (by have := HCX.out; have := HZ1.out; have := HZ2.out; have := HZ3.out; omega))
    have HC7 := Lib.hid (HC6.out.other hgs (by have := HCX.out; have := HZ1.out; omega))
    have HT7 := Lib.hid (own_other HT6.out hgs (.inr fun e => by have := own_ge HT6.out C e; have := HCX.out; omega))
    have HD7 := Lib.hid (own_other HD6.out hgs (.inr fun e => by have := own_ge HD6.out C e; have := HZ5.out; omega))
    obtain ⟨y7, hy7⟩ : ∃ y7, y7 = y6.setCell ⟨C, 3, none⟩ (.slice A6 l.length c6) := ⟨_, rfl⟩
    rw [← hy7] at HS7 HO7 HC7 HT7 HD7 ⊢
    clear hy7 HS6 HO6 HC6 HT6 HD6 hgs c3 f3 r1
    obtain ⟨lc, hlc⟩ : ∃ lc, lc = (cutL b codes (a + 4 * N)).length := ⟨_, rfl⟩
    obtain ⟨ls, hls⟩ : ∃ ls, ls = (cutL b subs (a + 4 * N + k1)).length := ⟨_, rfl⟩
    obtain ⟨ld, hld⟩ : ∃ ld, ld = l.length := ⟨_, rfl⟩
    obtain ⟨lt, hlt⟩ : ∃ lt, lt = ts.length := ⟨_, rfl⟩
    have q0 := HS7.out.cc.c0
    have q1 := HS7.out.cc.c1
    have q2 := HS7.out.cc.c2
    have q3 := HS7.out.cc.c3
    have q4 := HS7.out.cc.c4
    have l0 := HS7.out.ee.e0
    have l1 := HS7.out.ee.e1
    have l2 := HS7.out.ee.e2
    have l3 := HS7.out.ee.e3
    have fC := HS7.out.cc.free
    have fE := HS7.out.ee.free
    have nCE : ¬ C = E := HS7.out.ce
    have nEC : ¬ E = C := fun e => HS7.out.ce e.symm
    rw [← hlc] at q1
    rw [← hls] at q2
    rw [← hld] at q3
    rw [← hlt] at q0
    have HLC := Lib.hid hlc
    have HLS := Lib.hid hls
    have HLD := Lib.hid hld
    have HLT := Lib.hid hlt
    clear hlc hls hld hlt
    go_region
    rw [setCell_id q0, setCell_id q1, setCell_id q2, setCell_id q3, setCell_id q4, setCell_id l0, setCell_id l1, setCell_id l2, setCell_id l3]
    have hP : PPost b o w (.returned (.tuple #[.agg #[.slice A7 lt c7, .slice A9 lc c9, .slice A8 ls c8, .slice A6 ld c6, .int .i64 size], rejV 0 0])) y7.drew := by
      refine ⟨HS7.out.below.drew, ?_⟩
      rw [HPA.out]
      refine ⟨_, rfl, ⟨.slice A7 lt c7, .slice A9 lc c9, .slice A8 ls c8, .slice A6 ld c6, rfl, ?_, ?_, ?_, ?_⟩⟩
      · rw [HLT.out]; exact own_base (own_below HT7.out (Below.refl _ _).drew) (by have := HSZ.out; omega)
      · rw [HLC.out]; exact (HC7.out.below (Below.refl _ _).drew).base (by have := HSZ.out; have := HZ1.out; omega)
      · rw [HLS.out, show codes.sum.toNat = k1 by have := HK1.out; omega]
        exact (HO7.out.below (Below.refl _ _).drew).base (by have := HSZ.out; have := HZ1.out; have := HZ2.out; have := HZ3.out; omega)
      · rw [HLD.out, show codes.sum.toNat = k1 by have := HK1.out; omega, show subs.sum.toNat = k2 by have := HK2.out; omega, ← HPI.out, ← HLDD.out]
        exact own_base (own_below HD7.out (Below.refl _ _).drew) HZ6.out
    have HPO := Lib.hid hP
    clear hP HPA HD7 HC7 HO7 HT7 HS7
    rename_i K1 h1
    refine h1 _ _ ?_
    clear h1
    go_step
    refine leaves_cons (f := 51) (args := #[.pointer (some ⟨C, 0, none⟩), .pointer (some ⟨E, 0, none⟩)]) (by simp) (by simp [go_sem]) ?_
    refine (catch_idle _ _ _).mono ?_
    rintro e u' w'' ⟨rfl, rfl, rfl⟩
    simp [Leaves, settle, results, Try.results29, go_sem, q0, q1, q2, q3, q4, l0, l1, l2, l3]
    exact HPO.out
end Go.Proofs.Ytkbboepopcebaaa
namespace Go.Proofs.Ytkbboepopcebaaa
open Go.RowKit

set_option maxRecDepth 100000 in
set_option maxHeartbeats 8000000 in
theorem st22 (A : Option Addr) (n c : Nat) (o : Bool) (b : List Int) (w : World) (hb : NumsR w .u8 A b) (hy : Byt b) (hn : b.length = n) (hnc : n ≤ c) (C E R N a : Nat) (four sc ss : Int) (codes subs : List Int) (v10 v12 : Value) (x : World)
    (hs : PSx w x C E R A n c a (.slice none 0 0) (.slice none 0 0) (.slice none 0 0) (.slice none 0 0) (.int .i64 0)) (hCR : C < R) (hER : E < R) (h10 : Lst x R v10 codes) (h12 : Lst x R v12 subs) (hN : codes.length = N) (hN2 : N ≤ 1024) (ha : 1 ≤ a) (han : a ≤ n) (hM : subs.length ≤ 256) (hp1 : ∀ x ∈ codes, 1 ≤ x) (hp2 : ∀ x ∈ subs, 1 ≤ x)
    (h4 : 4 * (N : Int) = four) (hsc : codes.sum = sc) (hss : subs.sum = ss) (hsc2 : sc ≤ 1099511627776) (hss2 : ss ≤ 1099511627776)
    (hp : parse b o = parseEnd b o four N codes subs a)
    (u8 u14 u15 u16 u17 u18 u19 u20 u21 u22 u23 u24 u25 u26 u27 u28 u29 u30 u31 u32 u33 u34 u35 u36 u37 u38 u39 u40 u41 u42 u43 u44 u45 u46 u47 u48 u49 u50 u51 u52 u53 u54 u55 u56 u57 u58 u59 u60 u61 u62 u63 u64 u65 u66 u67 u68 u69 u70 u71 u72 u73 u74 u75 u76 u77 u78 u79 u80 u81 u82 u83 u84 u85 u86 u87 u88 u89 u90 u91 u92 u93 u94 u95 u96 u97 u98 u99 u100 u101 u102 u103 u104 u105 u106 : Value) :
    Code.wp Try.prog (rest29 18) (bodyPostD Try.prog Try.f29 (PPost b o w)) ⟨#[.slice A n c, .bool o, undef, undef, .pointer (some ⟨C, 0, none⟩), .pointer (some ⟨E, 0, none⟩), .pointer (some ⟨R, 0, none⟩), .int .i64 four, u8, .int .i64 N, v10, .int .i64 sc, v12, .int .i64 ss, u14, u15, u16, u17, u18, u19, u20, u21, u22, u23, u24, u25, u26, u27, u28, u29, u30, u31, u32, u33, u34, u35, u36, u37, u38, u39, u40, u41, u42, u43, u44, u45, u46, u47, u48, u49, u50, u51, u52, u53, u54, u55, u56, u57, u58, u59, u60, u61, u62, u63, u64, u65, u66, u67, u68, u69, u70, u71, u72, u73, u74, u75, u76, u77, u78, u79, u80, u81, u82, u83, u84, u85, u86, u87, u88, u89, u90, u91, u92, u93, u94, u95, u96, u97, u98, u99, u100, u101, u102, u103, u104, u105, u106, undef, undef, undef, undef, undef, undef, undef, undef, undef, undef, undef, undef, undef, undef, undef, undef, undef, undef, undef, undef, undef, undef, undef, undef, undef, undef, undef, undef, undef, undef, undef, undef, undef, undef, undef, undef, undef, undef, undef, undef, undef, undef, undef, undef, undef, undef, undef, undef, undef, undef, undef, undef, undef, undef, undef, undef, undef, undef, undef, undef, undef, undef, undef, undef, undef, undef, undef, undef, undef, undef, undef, undef, undef], [{ target := .fn (.func 51) #[.pointer (some ⟨C, 0, none⟩), .pointer (some ⟨E, 0, none⟩)], args := #[] }]⟩ x := by
  have hmx : n ≤ 140737488351232 := by have := hb.1; unfold reach at *; omega
  have HBB := Lib.hid hb; clear hb
  have HY := Lib.hid hy; clear hy
  have HN := Lib.hid hn; clear hn
  obtain ⟨P0, hP0⟩ : ∃ x, x = parse b o := ⟨_, rfl⟩
  have HPQ : Hid (parse b o = P0) := Lib.hid hP0.symm
  have hp0 := hP0.trans hp
  unfold parseEnd at hp0
  rw [hsc, hss] at hp0
  have HP0 := Lib.hid hp0
  have HS0 := Lib.hid hs
  clear hs hp hP0 hp0
  have H10 := Lib.hid h10; clear h10
  have H12 := Lib.hid h12; clear h12
  have HNN := Lib.hid hN; clear hN
  have HP1 := Lib.hid hp1; clear hp1
  have HP2 := Lib.hid hp2; clear hp2
  have sc0 : 0 ≤ sc := by have := sum_nonneg codes HP1.out; omega
  have ss0 : 0 ≤ ss := by have := sum_nonneg subs HP2.out; omega
  have H4 := Lib.hid h4; clear h4
  have f0 : 0 ≤ four := by have := H4.out; omega
  have f1 : four ≤ 4096 := by have := H4.out; omega
  have HSC := Lib.hid hsc; clear hsc
  have HSS := Lib.hid hss; clear hss
  conv => arg 2; whnf
  go_wp2_with fail
  by_cases c1 : b.length < a + 2
  · refine (next_cut R A n c ((a : Nat) : Int) 2 x HS0.out.rd (by omega) (by omega) (by have := HN.out; omega) (by omega) (by omega) (by have := HN.out; omega)).mono ?_
    rintro e w2 ⟨rfl, rfl⟩
    exact HS0.out.bad (grown_refl _ _) (HPQ.out.trans (HP0.out.trans ((readB_cut c1).trans (by rw [HN.out])))) rfl rfl
  obtain ⟨size, hsize⟩ : ∃ x, x = num b a 2 := ⟨_, rfl⟩
  have bsize := num_bd HY.out a 2
  rw [← hsize] at bsize
  have hr1 := next_ok w R A n c ((a : Nat) : Int) 2 b x HBB.out HY.out HN.out HS0.out.below HS0.out.r HS0.out.rd (by omega) (by omega) (by omega) (by have := HN.out; omega)
  rw [Int.toNat_natCast, show (2 : Int).toNat = 2 from rfl, ← hsize] at hr1
  have hp1 := HP0.out.trans (readB_yes c1)
  rw [← hsize] at hp1
  have HPR := Lib.hid hp1
  have Hsize := Lib.hid hsize
  clear hp1 hsize
  refine hr1.mono ?_
  clear hr1
  rintro e x1 ⟨rfl, hrd, hg⟩
  have HS1 := Lib.hid (HS0.out.next hg hrd)
  have HG1 := Lib.hid hg
  clear HS0 HP0 hrd hg
  have sz0 : 0 ≤ size := bsize.1
  have sz1 : size < 65536 := bsize.2
  have k4 := HS1.out.cc.c4
  have kf := HS1.out.cc.free 4
  have H101 := Lib.hid (H10.out.grown HG1.out (Nat.le_refl _))
  have H121 := Lib.hid (H12.out.grown HG1.out (Nat.le_refl _))
  clear bsize H10 H12 HG1
  go_upto_region 23 with (fail)
  have HS2 := Lib.hid (HS1.out.put (HS1.out.cc.set4 (.int .i64 size)))
  have hgs := grown_setCell x1 C 4 (.int .i64 size)
  have H102 := Lib.hid (H101.out.grown hgs (by omega))
  have H122 := Lib.hid (H121.out.grown hgs (by omega))
  obtain ⟨y1, hy1⟩ : ∃ y1, y1 = x1.setCell ⟨C, 4, none⟩ (.int .i64 size) := ⟨_, rfl⟩
  rw [← hy1] at HS2 H102 H122 ⊢
  clear hy1 HS1 H101 H121 hgs k4 kf
  obtain ⟨a2, ha2⟩ : ∃ a2 : Nat, a2 = a + 2 := ⟨_, rfl⟩
  have HS3 := Lib.hid (HS2.out.at (show (a : Int) + 2 = (a2 : Int) by omega))
  have hp2 := HPR.out
  rw [← ha2] at hp2
  have HP3 := Lib.hid hp2
  have HA2 := Lib.hid ha2
  have a2n : a2 ≤ n := by have := HN.out; omega
  clear HS2 HPR hp2 ha2
  go_wp2_with fail
  by_cases c4 : b.length < a2 + 1
  · refine (want_cut R A n c ((a2 : Nat) : Int) 0 53 y1 HS3.out.rd (by omega) (by omega) (by have := HN.out; omega) (by have := HN.out; omega)).mono ?_
    rintro e w2 ⟨rfl, rfl⟩
    exact HS3.out.bad (grown_refl _ _) (HPQ.out.trans (HP3.out.trans ((needB_cut c4).trans (by rw [HN.out])))) rfl rfl
  by_cases d4 : num b a2 1 = 0
  case neg =>
    refine (want_no w R A n c ((a2 : Nat) : Int) 0 53 _ b y1 HBB.out HY.out HN.out HS3.out.below HS3.out.r HS3.out.rd (by omega) (by have := HN.out; omega) (by rw [Int.toNat_natCast]) d4).mono ?_
    rintro e w2 ⟨rfl, hg⟩
    exact HS3.out.bad hg (HPQ.out.trans (HP3.out.trans (needB_no c4 d4))) rfl rfl
  refine (want_yes w R A n c ((a2 : Nat) : Int) 0 53 b y1 HBB.out HY.out HN.out HS3.out.below HS3.out.r HS3.out.rd (by omega) (by have := HN.out; omega) (by rw [Int.toNat_natCast]; exact d4)).mono ?_
  rintro e x4 ⟨rfl, hrd, hg⟩
  have HS4 := Lib.hid (HS3.out.next hg hrd)
  have HG4 := Lib.hid hg
  have HP4 := Lib.hid (HP3.out.trans (needB_yes c4 d4))
  clear HS3 HP3 hrd hg d4
  obtain ⟨a3, ha3⟩ : ∃ a3 : Nat, a3 = a2 + 1 := ⟨_, rfl⟩
  have HS5 := Lib.hid (HS4.out.at (show (a2 : Int) + 1 = (a3 : Int) by omega))
  have H103 := Lib.hid (H102.out.grown HG4.out (Nat.le_refl _))
  have H123 := Lib.hid (H122.out.grown HG4.out (Nat.le_refl _))
  have e3 : a + 3 = a3 := by have := HA2.out; omega
  have hp5 := HP4.out
  rw [e3] at hp5
  have HP5 := Lib.hid hp5
  have HA3 := Lib.hid ha3
  have a3n : a3 ≤ n := by have := HN.out; have := HA3.out; omega
  clear HS4 HP4 hp5 e3 ha3 H102 H122
  obtain ⟨s1, hs1⟩ : ∃ s1 : Int, s1 = (a3 : Int) + four := ⟨_, rfl⟩
  obtain ⟨s2, hs2⟩ : ∃ s2 : Int, s2 = s1 + sc := ⟨_, rfl⟩
  obtain ⟨hd, hhd⟩ : ∃ hd : Int, hd = s2 + ss := ⟨_, rfl⟩
  obtain ⟨he, hhe⟩ : ∃ he : Int, he = hd + size := ⟨_, rfl⟩
  have hp6 := HP5.out
  rw [← hs1, ← hs2, ← hhd, ← hhe] at hp6
  have hw1 : IntKind.i64.wrap ((a3 : Int) + four) = s1 := by rw [hs1]; exact IntWalk.i64_in _ (by omega)
  have hw2 : IntKind.i64.wrap (s1 + sc) = s2 := by rw [hs2]; exact IntWalk.i64_in _ (by omega)
  have hw3 : IntKind.i64.wrap (s2 + ss) = hd := by rw [hhd]; exact IntWalk.i64_in _ (by omega)
  have hw4 : IntKind.i64.wrap (hd + size) = he := by rw [hhe]; exact IntWalk.i64_in _ (by omega)
  have HP6 := Lib.hid hp6
  have HHS : Hid (hd = (a3 : Int) + four + sc + ss) := Lib.hid (by omega)
  have HHE := Lib.hid hhe
  clear HP5 hp6 hs1 hs2 hhd hhe
  clear f0 f1 sc0 ss0 hsc2 hss2 sz0 sz1
  have r1 := HS5.out.rd.place
  have k4 := HS5.out.cc.c4
  by_cases t1 : (n : Int) < hd
  · have ut1 : decide ((n : Int) < hd) = true := by simpa using t1
    have NT1 := Lib.hid t1
    clear t1
    go_wp2_with fail
    exact HS5.out.bad (grown_refl _ _) (HPQ.out.trans (HP6.out.trans (by rw [if_pos (Or.inl (show (b.length : Int) < hd by have := HN.out; have := NT1.out; omega)), HN.out]))) rfl rfl
  have ut1 : decide ((n : Int) < hd) = false := by simpa using t1
  have NT1 := Lib.hid t1
  clear t1
  have fin : ∀ (o' : Bool), o' = o → (o' = true ∨ ¬ (n : Int) < he) → P0 = askB (decide ((b.length : Int) ≤ he)) 58 he (takeB (tysR b (N : Int).toNat true a3) fun ts => .ok ⟨ts, cutL b codes (a3 + 4 * (N : Int).toNat), cutL b subs (a3 + 4 * (N : Int).toNat + sc.toNat), b.drop (a3 + 4 * (N : Int).toNat + sc.toNat + ss.toNat), size⟩) := by
    intro o' ho h
    refine HP6.out.trans ?_
    rw [if_neg]
    rintro (h1 | ⟨h1, h2⟩)
    · have := HN.out; have := NT1.out; omega
    · rcases h with h | h
      · rw [ho, h1] at h; simp at h
      · have := HN.out; omega
  have FIN := Lib.hid fin
  clear fin
  by_cases t2 : o = false ∧ (n : Int) < he
  · have HPE := Lib.hid (HP6.out.trans (if_pos (Or.inr ⟨t2.1, by have := HN.out; have := t2.2; omega⟩)))
    obtain ⟨rfl, t2⟩ := t2
    have ut2 : decide ((n : Int) < he) = true := by simpa using t2
    have NT2 := Lib.hid t2
    clear t2
    go_wp2_with fail
    exact HS5.out.bad (grown_refl _ _) (HPQ.out.trans (HPE.out.trans (by rw [HN.out]))) rfl rfl
  have hp7 := FIN.out o rfl (by cases o <;> simp_all)
  rw [Int.toNat_natCast] at hp7
  have HP7 := Lib.hid hp7
  clear hp7 FIN HP6
  have T2 := Lib.hid t2
  clear t2
  have rest : ∀ (o' : Bool), o' = o → True := fun _ _ => trivial
  clear rest
  cases o
  · have ut2 : decide ((n : Int) < he) = false := by have := T2.out; simp at this; simp; omega
    go_upto_region 27 with (fail)
    by_cases t3 : (n : Int) ≤ he
    case neg =>
      have ut3 : decide ((n : Int) ≤ he) = false := by simpa using t3
      have NT3 := Lib.hid t3
      clear t3
      go_wp2_with fail
      refine (ask_no _ _ _ _).mono ?_
      rintro e w2 ⟨rfl, rfl⟩
      exact HS5.out.bad (grown_refl _ _) (HPQ.out.trans (HP7.out.trans (askB_no (decide_eq_false (by have := NT3.out; have := HN.out; omega))))) rfl rfl
    have ut3 : decide ((n : Int) ≤ he) = true := by simpa using t3
    have NT3 := Lib.hid t3
    clear t3
    go_wp2_with fail
    refine (ask_yes _ _ _ _).mono ?_
    rintro e w2 ⟨rfl, rfl⟩
    have HP8 := Lib.hid (HP7.out.trans (askB_yes (decide_eq_true (by have := NT3.out; have := HN.out; omega))))
    rename_i K1 h1 K2 h2
    refine h2 _ _ (show K1 _ _ from h1 _ _ ?_)
    clear h1 h2
    exact st28 A n c _ b w HBB.out HY.out HN.out hnc C E R N a3 size codes subs v10 v12 _ HS5.out hCR hER H103.out H123.out HNN.out hN2 (by have := HA3.out; omega) hM HP1.out HP2.out (by have := HHS.out; have := H4.out; have := NT1.out; have := HSC.out; have := HSS.out; omega) (by rw [HSC.out, HSS.out]; exact HPQ.out.trans HP8.out) _ _ _ _ _ _ _ _ _ _ _ _ _ _ _ _ _ _ _ _ _ _ _ _ _ _ _ _ _ _ _ _ _ _ _ _ _ _ _ _ _ _ _ _ _ _ _ _ _ _ _ _ _ _ _ _ _ _ _ _ _ _ _ _ _ _ _ _ _ _ _ _ _ _ _ _ _ _ _ _ _ _ _ _ _ _ _ _ _ _ _ _ _ _ _ _ _ _ _ _ _ _ _ _ _ _ _ _ _ _ _ _ _ _ _ _ _ _ _ _ _ _ _ _ _ _ _ _ _ _ _ _ _ _ _ _ _ _ _ _ _ _ _ _ _ _ _ _ _
  · go_upto_region 27 with (fail)
    by_cases t3 : (n : Int) ≤ he
    case neg =>
      have ut3 : decide ((n : Int) ≤ he) = false := by simpa using t3
      have NT3 := Lib.hid t3
      clear t3
      go_wp2_with fail
      refine (ask_no _ _ _ _).mono ?_
      rintro e w2 ⟨rfl, rfl⟩
      exact HS5.out.bad (grown_refl _ _) (HPQ.out.trans (HP7.out.trans (askB_no (decide_eq_false (by have := NT3.out; have := HN.out; omega))))) rfl rfl
    have ut3 : decide ((n : Int) ≤ he) = true := by simpa using t3
    have NT3 := Lib.hid t3
    clear t3
    go_wp2_with fail
    refine (ask_yes _ _ _ _).mono ?_
    rintro e w2 ⟨rfl, rfl⟩
    have HP8 := Lib.hid (HP7.out.trans (askB_yes (decide_eq_true (by have := NT3.out; have := HN.out; omega))))
    rename_i K1 h1 K2 h2
    refine h2 _ _ (show K1 _ _ from h1 _ _ ?_)
    clear h1 h2
    exact st28 A n c _ b w HBB.out HY.out HN.out hnc C E R N a3 size codes subs v10 v12 _ HS5.out hCR hER H103.out H123.out HNN.out hN2 (by have := HA3.out; omega) hM HP1.out HP2.out (by have := HHS.out; have := H4.out; have := NT1.out; have := HSC.out; have := HSS.out; omega) (by rw [HSC.out, HSS.out]; exact HPQ.out.trans HP8.out) _ _ _ _ _ _ _ _ _ _ _ _ _ _ _ _ _ _ _ _ _ _ _ _ _ _ _ _ _ _ _ _ _ _ _ _ _ _ _ _ _ _ _ _ _ _ _ _ _ _ _ _ _ _ _ _ _ _ _ _ _ _ _ _ _ _ _ _ _ _ _ _ _ _ _ _ _ _ _ _ _ _ _ _ _ _ _ _ _ _ _ _ _ _ _ _ _ _ _ _ _ _ _ _ _ _ _ _ _ _ _ _ _ _ _ _ _ _ _ _ _ _ _ _ _ _ _ _ _ _ _ _ _ _ _ _ _ _ _ _ _ _ _ _ _ _ _ _ _

end Go.Proofs.Ytkbboepopcebaaa
namespace Go.Proofs.Ytkbboepopcebaaa
open Go.RowKit

theorem takeB_err {α β : Type} {x : Except Bad α} {e : Bad} {k : α → Except Bad β} (h : x = .error e) : takeB x k = .error e := by rw [h]; rfl
theorem takeB_ok {α β : Type} {x : Except Bad α} {v : α} {k : α → Except Bad β} (h : x = .ok v) : takeB x k = k v := by rw [h]; rfl

set_option maxRecDepth 100000 in
set_option maxHeartbeats 8000000 in
theorem st12 (A : Option Addr) (n c : Nat) (o : Bool) (b : List Int) (w : World) (hb : NumsR w .u8 A b) (hy : Byt b) (hn : b.length = n) (hnc : n ≤ c) (C E R N : Nat) (four : Int) (x : World)
    (hs : PSx w x C E R A n c 9 (.slice none 0 0) (.slice none 0 0) (.slice none 0 0) (.slice none 0 0) (.int .i64 0)) (hCR : C < R) (hER : E < R) (hN2 : N ≤ 1024) (hn9 : 9 ≤ n)
    (h4 : 4 * (N : Int) = four)
    (hp : parse b o = takeB (szs b 2 N 9) fun codes =>
      readB b (9 + 2 * N) 1 fun kind =>
      askB (decide (kind = 3 ∨ kind = 255)) 53 (9 + 2 * N : Nat) <|
      if kind = 3 then
        readB b (10 + 2 * N) 2 fun m =>
        askB (decide (0 < m ∧ m ≤ 256)) 57 (10 + 2 * N : Nat) <|
        takeB (szs b 4 m.toNat (12 + 2 * N)) fun subs =>
        needB b (12 + 2 * N + 4 * m.toNat) 255 53 <|
        parseEnd b o four N codes subs (13 + 2 * N + 4 * m.toNat)
      else parseEnd b o four N codes [] (10 + 2 * N))
    (u8 u10 u11 u12 u13 u14 u15 u16 u17 u18 u19 u20 u21 u22 u23 u24 u25 u26 u27 u28 u29 u30 u31 u32 u33 u34 u35 u36 u37 u38 u39 u40 u41 u42 u43 u44 u45 u46 u47 u48 u49 u50 u51 u52 u53 u54 u55 u56 u57 u58 u59 u60 u61 u62 : Value) :
    Code.wp Try.prog (rest29 12) (bodyPostD Try.prog Try.f29 (PPost b o w)) ⟨#[.slice A n c, .bool o, undef, undef, .pointer (some ⟨C, 0, none⟩), .pointer (some ⟨E, 0, none⟩), .pointer (some ⟨R, 0, none⟩), .int .i64 four, u8, .int .i64 N, u10, u11, u12, u13, u14, u15, u16, u17, u18, u19, u20, u21, u22, u23, u24, u25, u26, u27, u28, u29, u30, u31, u32, u33, u34, u35, u36, u37, u38, u39, u40, u41, u42, u43, u44, u45, u46, u47, u48, u49, u50, u51, u52, u53, u54, u55, u56, u57, u58, u59, u60, u61, u62, undef, undef, undef, undef, undef, undef, undef, undef, undef, undef, undef, undef, undef, undef, undef, undef, undef, undef, undef, undef, undef, undef, undef, undef, undef, undef, undef, undef, undef, undef, undef, undef, undef, undef, undef, undef, undef, undef, undef, undef, undef, undef, undef, undef, undef, undef, undef, undef, undef, undef, undef, undef, undef, undef, undef, undef, undef, undef, undef, undef, undef, undef, undef, undef, undef, undef, undef, undef, undef, undef, undef, undef, undef, undef, undef, undef, undef, undef, undef, undef, undef, undef, undef, undef, undef, undef, undef, undef, undef, undef, undef, undef, undef, undef, undef, undef, undef, undef, undef, undef, undef, undef, undef, undef, undef, undef, undef, undef, undef, undef, undef, undef, undef, undef, undef, undef, undef], [{ target := .fn (.func 51) #[.pointer (some ⟨C, 0, none⟩), .pointer (some ⟨E, 0, none⟩)], args := #[] }]⟩ x := by
  have hmx : n ≤ 140737488351232 := by have := hb.1; unfold reach at *; omega
  have HBB := Lib.hid hb; clear hb
  have HY := Lib.hid hy; clear hy
  have HN := Lib.hid hn; clear hn
  obtain ⟨P0, hP0⟩ : ∃ x, x = parse b o := ⟨_, rfl⟩
  have HPQ : Hid (parse b o = P0) := Lib.hid hP0.symm
  have HP0 := Lib.hid (hP0.trans hp)
  have HS0 := Lib.hid hs
  have H4 := Lib.hid h4
  clear hs hp hP0 h4
  conv => arg 2; whnf
  go_wp2_with fail
  refine (sizes_any w R A n c N 9 2 b x HBB.out HY.out HN.out HS0.out.below HS0.out.r HS0.out.rd (by omega) (by omega) (by omega) (by omega)).mono ?_
  rintro e y1 ⟨hg, hpost⟩
  rw [show (2 : Int).toNat = 2 from rfl] at hpost
  rcases hsz : szs b 2 N 9 with ⟨e1, e2⟩ | codes
  · rw [hsz] at hpost
    obtain rfl := hpost
    exact HS0.out.bad hg (HPQ.out.trans (HP0.out.trans (takeB_err hsz))) rfl rfl
  rw [hsz] at hpost
  obtain ⟨v10, rfl, ho, hrd⟩ := hpost
  have HSR : Hid (R < x.heap.size) := Lib.hid (World.block_lt_of_cell? x _ HS0.out.rd.place)
  have H10 : Hid (Lst y1 R v10 codes) := Lib.hid ⟨_, HSR.out, ho⟩
  obtain ⟨p1, hp1⟩ : ∃ p1 : Nat, p1 = 9 + 2 * N := ⟨_, rfl⟩
  have HS1 := Lib.hid ((HS0.out.next hg hrd).at (show ((9 : Nat) : Int) + N * 2 = (p1 : Int) by omega))
  have hpx := HP0.out.trans (takeB_ok hsz)
  rw [← hp1, show 10 + 2 * N = p1 + 1 by omega, show 12 + 2 * N = p1 + 3 by omega, show 13 + 2 * N = p1 + 4 by omega] at hpx
  have HP1 := Lib.hid hpx
  have HCL := Lib.hid (szs_len hsz)
  have HCP := Lib.hid (szs_pos hsz)
  have hcs := szs_sum HY.out hsz
  have p1n : p1 ≤ n := by have := szs_ge hsz (by have := HN.out; omega); have := HN.out; omega
  obtain ⟨sc, hsc⟩ : ∃ sc, codes.sum = sc := ⟨_, rfl⟩
  rw [hsc] at hcs ⊢
  have hsc2 : sc ≤ 67108864 := by
    have h1 : ((N : Int) * 256 ^ 2) = N * 65536 := rfl
    omega
  have HSC := Lib.hid hsc
  have HPP1 := Lib.hid hp1
  clear HS0 HP0 hg hrd ho hsz hpx hcs hsc hp1 HSR
  go_wp2_with fail
  by_cases c2 : b.length < p1 + 1
  · refine (next_cut R A n c ((p1 : Nat) : Int) 1 y1 HS1.out.rd (by omega) (by omega) (by have := HN.out; omega) (by omega) (by omega) (by have := HN.out; omega)).mono ?_
    rintro e w2 ⟨rfl, rfl⟩
    exact HS1.out.bad (grown_refl _ _) (HPQ.out.trans (HP1.out.trans ((readB_cut c2).trans (by rw [HN.out])))) rfl rfl
  obtain ⟨kind, hkind⟩ : ∃ x, x = num b p1 1 := ⟨_, rfl⟩
  have bkind := num_bd HY.out p1 1
  rw [← hkind] at bkind
  have hr2 := next_ok w R A n c ((p1 : Nat) : Int) 1 b y1 HBB.out HY.out HN.out HS1.out.below HS1.out.r HS1.out.rd (by omega) (by omega) (by omega) (by have := HN.out; omega)
  rw [Int.toNat_natCast, show (1 : Int).toNat = 1 from rfl, ← hkind] at hr2
  have hp2 := HP1.out.trans (readB_yes c2)
  rw [← hkind] at hp2
  have HP2 := Lib.hid hp2
  have Hkind := Lib.hid hkind
  clear hp2 hkind
  refine hr2.mono ?_
  clear hr2
  rintro e x2 ⟨rfl, hrd, hg⟩
  have HS2 := Lib.hid (HS1.out.next hg hrd)
  have HG2 := Lib.hid hg
  clear HS1 HP1 hrd hg
  have H102 := Lib.hid (H10.out.grown HG2.out (Nat.le_refl _))
  clear H10 HG2 bkind
  have HS3 := Lib.hid (HS2.out.at (show (p1 : Int) + 1 = ((p1 + 1 : Nat) : Int) by omega))
  have p1n' : p1 + 1 ≤ n := by have := HN.out; omega
  clear HS2
  by_cases k3 : kind = 3
  · subst k3
    have HP3 := Lib.hid ((HP2.out.trans (askB_yes (by simp))).trans (if_pos rfl))
    clear HP2
    go_wp2_with fail
    refine (ask_yes _ _ _ _).mono ?_
    rintro e w2 ⟨rfl, rfl⟩
    rename_i K1 h1 K2 h2
    refine h2 _ _ (show K1 _ _ from h1 _ _ ?_)
    clear h1 h2
    refine wp_seq_k fun K hK => ?_
    have HKK := Lib.hid hK
    clear hK
    go_wp2_with fail
    obtain ⟨p2, hp2⟩ : ∃ p2 : Nat, p2 = p1 + 1 := ⟨_, rfl⟩
    have hpx := HP3.out
    rw [← hp2, show p1 + 3 = p2 + 2 by omega, show p1 + 4 = p2 + 3 by omega] at hpx
    have hsx := HS3.out
    rw [← hp2] at hsx p1n'
    have HS4 := Lib.hid hsx
    have HP4 := Lib.hid hpx
    have HPP2 := Lib.hid hp2
    clear HP3 HS3 hpx hsx hp2
    by_cases c5 : b.length < p2 + 2
    · refine (next_cut R A n c ((p2 : Nat) : Int) 2 x2 HS4.out.rd (by omega) (by omega) (by have := HN.out; omega) (by omega) (by omega) (by have := HN.out; omega)).mono ?_
      rintro e w2 ⟨rfl, rfl⟩
      exact HS4.out.bad (grown_refl _ _) (HPQ.out.trans (HP4.out.trans ((readB_cut c5).trans (by rw [HN.out])))) rfl rfl
    obtain ⟨m, hm⟩ : ∃ x, x = num b p2 2 := ⟨_, rfl⟩
    have bm := num_bd HY.out p2 2
    rw [← hm] at bm
    have hr5 := next_ok w R A n c ((p2 : Nat) : Int) 2 b x2 HBB.out HY.out HN.out HS4.out.below HS4.out.r HS4.out.rd (by omega) (by omega) (by omega) (by have := HN.out; omega)
    rw [Int.toNat_natCast, show (2 : Int).toNat = 2 from rfl, ← hm] at hr5
    have hp5 := HP4.out.trans (readB_yes c5)
    rw [← hm] at hp5
    have HP5 := Lib.hid hp5
    have Hm := Lib.hid hm
    clear hp5 hm
    refine hr5.mono ?_
    clear hr5
    rintro e x5 ⟨rfl, hrd, hg⟩
    have HS5 := Lib.hid (HS4.out.next hg hrd)
    have HG5 := Lib.hid hg
    clear HS4 HP4 hrd hg
    have bm0 := bm.1
    have H103 := Lib.hid (H102.out.grown HG5.out (Nat.le_refl _))
    clear bm H102 HG5
    by_cases q1 : 0 < m
    case neg =>
      have uq1 : decide (0 < m) = false := by simpa using q1
      have Nq1 := Lib.hid q1
      clear q1
      go_wp2_with fail
      refine (ask_no _ _ _ _).mono ?_
      rintro e w2 ⟨rfl, rfl⟩
      exact HS5.out.bad (grown_refl _ _) (HPQ.out.trans (HP5.out.trans (askB_no (decide_eq_false (by have := Nq1.out; omega))))) rfl rfl
    have uq1 : decide (0 < m) = true := by simpa using q1
    have Pq1 := Lib.hid q1
    clear q1
    by_cases q3 : m ≤ 256
    case neg =>
      have uq3 : decide (m ≤ 256) = false := by simpa using q3
      have Nq3 := Lib.hid q3
      clear q3
      go_wp2_with fail
      refine (ask_no _ _ _ _).mono ?_
      rintro e w2 ⟨rfl, rfl⟩
      exact HS5.out.bad (grown_refl _ _) (HPQ.out.trans (HP5.out.trans (askB_no (decide_eq_false (by have := Nq3.out; omega))))) rfl rfl
    have uq3 : decide (m ≤ 256) = true := by simpa using q3
    have Pq3 := Lib.hid q3
    clear q3
    go_wp2_with fail
    refine (ask_yes _ _ _ _).mono ?_
    rintro e w2 ⟨rfl, rfl⟩
    have HP6 := Lib.hid (HP5.out.trans (askB_yes (decide_eq_true (by have := Pq1.out; have := Pq3.out; omega))))
    clear HP5
    obtain ⟨M, hMM⟩ : ∃ M : Nat, m = (M : Int) := ⟨m.toNat, by omega⟩
    subst hMM
    have M256 : M ≤ 256 := by have := Pq3.out; omega
    clear uq1 uq3 bm0
    go_wp2_with fail
    obtain ⟨p3, hp3⟩ : ∃ p3 : Nat, p3 = p2 + 2 := ⟨_, rfl⟩
    have p3n : p3 ≤ n := by have := HN.out; omega
    have hpx := HP6.out
    rw [Int.toNat_natCast, ← hp3] at hpx
    have HP7 := Lib.hid hpx
    have HS7 := Lib.hid (HS5.out.at (show (p2 : Int) + 2 = (p3 : Int) by omega))
    have HPP3 := Lib.hid hp3
    clear HS5 HP6 hpx hp3
    refine (sizes_any w R A n c M p3 4 b x5 HBB.out HY.out HN.out HS7.out.below HS7.out.r HS7.out.rd (by omega) (by omega) p3n (by omega)).mono ?_
    rintro e y3 ⟨hg, hpost⟩
    rw [show (4 : Int).toNat = 4 from rfl] at hpost
    rcases hsz : szs b 4 M p3 with ⟨e1, e2⟩ | subs
    · rw [hsz] at hpost
      obtain rfl := hpost
      exact HS7.out.bad hg (HPQ.out.trans (HP7.out.trans (takeB_err hsz))) rfl rfl
    rw [hsz] at hpost
    obtain ⟨v12, rfl, ho, hrd⟩ := hpost
    have HSR : Hid (R < x5.heap.size) := Lib.hid (World.block_lt_of_cell? x5 _ HS7.out.rd.place)
    have H12 : Hid (Lst y3 R v12 subs) := Lib.hid ⟨_, HSR.out, ho⟩
    have H104 := Lib.hid (H103.out.grown hg (Nat.le_refl _))
    obtain ⟨p4, hp4⟩ : ∃ p4 : Nat, p4 = p3 + 4 * M := ⟨_, rfl⟩
    have HS8 := Lib.hid ((HS7.out.next hg hrd).at (show (p3 : Int) + M * 4 = (p4 : Int) by omega))
    have hpx := HP7.out.trans (takeB_ok hsz)
    rw [← hp4, show p2 + 3 + 4 * M = p4 + 1 by have := HPP3.out; omega] at hpx
    have HP8 := Lib.hid hpx
    have HSL := Lib.hid (szs_len hsz)
    have HSP := Lib.hid (szs_pos hsz)
    have hcs := szs_sum HY.out hsz
    have p4n : p4 ≤ n := by have := szs_ge hsz (by have := HN.out; omega); have := HN.out; omega
    obtain ⟨ss, hss⟩ : ∃ ss, subs.sum = ss := ⟨_, rfl⟩
    rw [hss] at hcs ⊢
    have hss2 : ss ≤ 1099511627776 := by
      have h1 : ((M : Int) * 256 ^ 4) = M * 4294967296 := rfl
      omega
    have HSS := Lib.hid hss
    have HPP4 := Lib.hid hp4
    clear HS7 HP7 hg hrd ho hsz hpx hcs hss hp4 HSR H103
    go_wp2_with fail
    by_cases c9 : b.length < p4 + 1
    · refine (want_cut R A n c ((p4 : Nat) : Int) 255 53 y3 HS8.out.rd (by omega) (by omega) (by have := HN.out; omega) (by have := HN.out; omega)).mono ?_
      rintro e w2 ⟨rfl, rfl⟩
      exact HS8.out.bad (grown_refl _ _) (HPQ.out.trans (HP8.out.trans ((needB_cut c9).trans (by rw [HN.out])))) rfl rfl
    by_cases d9 : num b p4 1 = 255
    case neg =>
      refine (want_no w R A n c ((p4 : Nat) : Int) 255 53 _ b y3 HBB.out HY.out HN.out HS8.out.below HS8.out.r HS8.out.rd (by omega) (by have := HN.out; omega) (by rw [Int.toNat_natCast]) d9).mono ?_
      rintro e w2 ⟨rfl, hg⟩
      exact HS8.out.bad hg (HPQ.out.trans (HP8.out.trans (needB_no c9 d9))) rfl rfl
    refine (want_yes w R A n c ((p4 : Nat) : Int) 255 53 b y3 HBB.out HY.out HN.out HS8.out.below HS8.out.r HS8.out.rd (by omega) (by have := HN.out; omega) (by rw [Int.toNat_natCast]; exact d9)).mono ?_
    rintro e x9 ⟨rfl, hrd, hg⟩
    have HS9 := Lib.hid (HS8.out.next hg hrd)
    have HG9 := Lib.hid hg
    have HP9 := Lib.hid (HP8.out.trans (needB_yes c9 d9))
    clear HS8 HP8 hrd hg d9
    have H105 := Lib.hid (H104.out.grown HG9.out (Nat.le_refl _))
    have H122 := Lib.hid (H12.out.grown HG9.out (Nat.le_refl _))
    have HS10 := Lib.hid (HS9.out.at (show (p4 : Int) + 1 = ((p4 + 1 : Nat) : Int) by omega))
    have p5n : p4 + 1 ≤ n := by have := HN.out; omega
    clear HS9
    go_wp2_with fail
    exact HKK.out _ _ (st22 A n c o b w HBB.out HY.out HN.out hnc C E R N (p4 + 1) four sc ss codes subs v10 v12 x9 HS10.out hCR hER H105.out H122.out HCL.out hN2 (by omega) p5n (by have := HSL.out; omega) HCP.out HSP.out H4.out HSC.out HSS.out (by omega) hss2 (HPQ.out.trans HP9.out) _ _ _ _ _ _ _ _ _ _ _ _ _ _ _ _ _ _ _ _ _ _ _ _ _ _ _ _ _ _ _ _ _ _ _ _ _ _ _ _ _ _ _ _ _ _ _ _ _ _ _ _ _ _ _ _ _ _ _ _ _ _ _ _ _ _ _ _ _ _ _ _ _ _ _ _ _ _ _ _ _ _ _ _ _ _ _ _ _ _ _ _ _ _)
  · have ku3 : ((kind : Int) == 3) = false := by simpa using k3
    have K3 := Lib.hid k3
    clear k3
    by_cases k255 : kind = 255
    case neg =>
      have ku255 : ((kind : Int) == 255) = false := by simpa using k255
      have K255 := Lib.hid k255
      clear k255
      go_wp2_with fail
      refine (ask_no _ _ _ _).mono ?_
      rintro e w2 ⟨rfl, rfl⟩
      exact HS3.out.bad (grown_refl _ _) (HPQ.out.trans (HP2.out.trans (askB_no (decide_eq_false (by have := K3.out; have := K255.out; omega))))) rfl rfl
    subst k255
    have HP3 := Lib.hid ((HP2.out.trans (askB_yes (by simp))).trans (if_neg (by decide)))
    clear HP2
    go_wp2_with fail
    refine (ask_yes _ _ _ _).mono ?_
    rintro e w2 ⟨rfl, rfl⟩
    rename_i K1 h1 K2 h2
    refine h2 _ _ (show K1 _ _ from h1 _ _ ?_)
    clear h1 h2
    refine wp_seq_k fun K hK => ?_
    have HKK := Lib.hid hK
    clear hK
    go_wp2_with fail
    exact HKK.out _ _ (st22 A n c o b w HBB.out HY.out HN.out hnc C E R N (p1 + 1) four sc 0 codes [] v10 (.slice none 0 0) x2 HS3.out hCR hER H102.out (Lst.nil _ _) HCL.out hN2 (by omega) p1n' (by simp) HCP.out (by simp) H4.out HSC.out rfl (by omega) (by omega) (HPQ.out.trans HP3.out) _ _ _ _ _ _ _ _ _ _ _ _ _ _ _ _ _ _ _ _ _ _ _ _ _ _ _ _ _ _ _ _ _ _ _ _ _ _ _ _ _ _ _ _ _ _ _ _ _ _ _ _ _ _ _ _ _ _ _ _ _ _ _ _ _ _ _ _ _ _ _ _ _ _ _ _ _ _ _ _ _ _ _ _ _ _ _ _ _ _ _ _ _ _)
end Go.Proofs.Ytkbboepopcebaaa
namespace Go.Proofs.Ytkbboepopcebaaa
open Go.RowKit

set_option maxRecDepth 100000 in
set_option maxHeartbeats 8000000 in
theorem parse_any (A : Option Addr) (n c : Nat) (o : Bool) (b : List Int) (w : World) (hb : NumsR w .u8 A b) (hy : Byt b) (hn : b.length = n) (hnc : n ≤ c) :
    Calls Try.prog 29 #[.slice A n c, .bool o] w (PPost b o w) := by
  have hmx : n ≤ 140737488351232 := by have := hb.1; unfold reach at *; omega
  have HBB := Lib.hid hb; clear hb
  have HY := Lib.hid hy; clear hy
  have HN := Lib.hid hn; clear hn
  have hmf : ∀ (fn : Fn) (first cap : Array Value) (w : World), (Instr.makeFunc fn first cap).run Try.prog w = .ok (.func fn first cap) w := fun _ _ _ _ => rfl
  obtain ⟨P0, hP0⟩ : ∃ x, x = parse b o := ⟨_, rfl⟩
  have HPQ : Hid (parse b o = P0) := Lib.hid hP0.symm
  unfold parse at hP0
  have HP0 := Lib.hid hP0
  have hs0 := PSx.start w A n c
  go_enter_defers Try.func29, Try.ntmps29
  go_wp2_with fail
  obtain ⟨C, hC⟩ : ∃ C, C = w.heap.size := ⟨_, rfl⟩
  obtain ⟨E, hE⟩ : ∃ E, E = C + 1 := ⟨_, rfl⟩
  obtain ⟨R, hR⟩ : ∃ R, R = E + 1 := ⟨_, rfl⟩
  rw [← hC, ← hE, ← hR] at hs0
  rw [← hC, ← hE, ← hR]
  obtain ⟨w1, hw1⟩ : ∃ w1, w1 = W3 w A n c := ⟨_, rfl⟩
  rw [← hw1] at hs0
  unfold W3 at hw1
  rw [← hw1]
  have HS0 := Lib.hid hs0
  have HCR : Hid (C < R) := Lib.hid (by omega)
  have HER : Hid (E < R) := Lib.hid (by omega)
  clear hs0 hw1 hC hE hR hP0
  by_cases c1 : b.length < 0 + 1
  · refine (want_cut R A n c 0 239 51 w1 HS0.out.rd (by omega) (by omega) (by have := HN.out; omega) (by have := HN.out; omega)).mono ?_
    rintro e w2 ⟨rfl, rfl⟩
    exact HS0.out.bad (grown_refl _ _) (HPQ.out.trans (HP0.out.trans ((needB_cut c1).trans (by rw [HN.out])))) rfl rfl
  by_cases d1 : num b 0 1 = 239
  case neg =>
    refine (want_no w R A n c 0 239 51 _ b w1 HBB.out HY.out HN.out HS0.out.below HS0.out.r HS0.out.rd (by omega) (by have := HN.out; omega) rfl d1).mono ?_
    rintro e w2 ⟨rfl, hg⟩
    exact HS0.out.bad hg (HPQ.out.trans (HP0.out.trans (needB_no c1 d1))) rfl rfl
  refine (want_yes w R A n c 0 239 51 b w1 HBB.out HY.out HN.out HS0.out.below HS0.out.r HS0.out.rd (by omega) (by have := HN.out; omega) d1).mono ?_
  rintro e x1 ⟨rfl, hrd, hg⟩
  have HS1 := Lib.hid (HS0.out.next hg hrd)
  have HG1 := Lib.hid hg
  have HP1 := Lib.hid (HP0.out.trans (needB_yes c1 d1))
  clear HS0 HP0 hrd hg d1
  go_wp2_with fail
  by_cases c2 : b.length < 1 + 1
  · refine (want_cut R A n c 1 0 51 x1 HS1.out.rd (by omega) (by omega) (by have := HN.out; omega) (by have := HN.out; omega)).mono ?_
    rintro e w2 ⟨rfl, rfl⟩
    exact HS1.out.bad (grown_refl _ _) (HPQ.out.trans (HP1.out.trans ((needB_cut c2).trans (by rw [HN.out])))) rfl rfl
  by_cases d2 : num b 1 1 = 0
  case neg =>
    refine (want_no w R A n c 1 0 51 _ b x1 HBB.out HY.out HN.out HS1.out.below HS1.out.r HS1.out.rd (by omega) (by have := HN.out; omega) rfl d2).mono ?_
    rintro e w2 ⟨rfl, hg⟩
    exact HS1.out.bad hg (HPQ.out.trans (HP1.out.trans (needB_no c2 d2))) rfl rfl
  refine (want_yes w R A n c 1 0 51 b x1 HBB.out HY.out HN.out HS1.out.below HS1.out.r HS1.out.rd (by omega) (by have := HN.out; omega) d2).mono ?_
  rintro e x2 ⟨rfl, hrd, hg⟩
  have HS2 := Lib.hid (HS1.out.next hg hrd)
  have HG2 := Lib.hid hg
  have HP2 := Lib.hid (HP1.out.trans (needB_yes c2 d2))
  clear HS1 HP1 hrd hg d2
  go_wp2_with fail
  by_cases c3 : b.length < 2 + 1
  · refine (want_cut R A n c 2 1 52 x2 HS2.out.rd (by omega) (by omega) (by have := HN.out; omega) (by have := HN.out; omega)).mono ?_
    rintro e w2 ⟨rfl, rfl⟩
    exact HS2.out.bad (grown_refl _ _) (HPQ.out.trans (HP2.out.trans ((needB_cut c3).trans (by rw [HN.out])))) rfl rfl
  by_cases d3 : num b 2 1 = 1
  case neg =>
    refine (want_no w R A n c 2 1 52 _ b x2 HBB.out HY.out HN.out HS2.out.below HS2.out.r HS2.out.rd (by omega) (by have := HN.out; omega) rfl d3).mono ?_
    rintro e w2 ⟨rfl, hg⟩
    exact HS2.out.bad hg (HPQ.out.trans (HP2.out.trans (needB_no c3 d3))) rfl rfl
  refine (want_yes w R A n c 2 1 52 b x2 HBB.out HY.out HN.out HS2.out.below HS2.out.r HS2.out.rd (by omega) (by have := HN.out; omega) d3).mono ?_
  rintro e x3 ⟨rfl, hrd, hg⟩
  have HS3 := Lib.hid (HS2.out.next hg hrd)
  have HG3 := Lib.hid hg
  have HP3 := Lib.hid (HP2.out.trans (needB_yes c3 d3))
  clear HS2 HP2 hrd hg d3
  go_wp2_with fail
  by_cases c4 : b.length < 3 + 1
  · refine (want_cut R A n c 3 1 53 x3 HS3.out.rd (by omega) (by omega) (by have := HN.out; omega) (by have := HN.out; omega)).mono ?_
    rintro e w2 ⟨rfl, rfl⟩
    exact HS3.out.bad (grown_refl _ _) (HPQ.out.trans (HP3.out.trans ((needB_cut c4).trans (by rw [HN.out])))) rfl rfl
  by_cases d4 : num b 3 1 = 1
  case neg =>
    refine (want_no w R A n c 3 1 53 _ b x3 HBB.out HY.out HN.out HS3.out.below HS3.out.r HS3.out.rd (by omega) (by have := HN.out; omega) rfl d4).mono ?_
    rintro e w2 ⟨rfl, hg⟩
    exact HS3.out.bad hg (HPQ.out.trans (HP3.out.trans (needB_no c4 d4))) rfl rfl
  refine (want_yes w R A n c 3 1 53 b x3 HBB.out HY.out HN.out HS3.out.below HS3.out.r HS3.out.rd (by omega) (by have := HN.out; omega) d4).mono ?_
  rintro e x4 ⟨rfl, hrd, hg⟩
  have HS4 := Lib.hid (HS3.out.next hg hrd)
  have HG4 := Lib.hid hg
  have HP4 := Lib.hid (HP3.out.trans (needB_yes c4 d4))
  clear HS3 HP3 hrd hg d4
  go_wp2_with fail
  by_cases c5 : b.length < 4 + 2
  · refine (next_cut R A n c 4 2 x4 HS4.out.rd (by omega) (by omega) (by have := HN.out; omega) (by omega) (by omega) (by have := HN.out; omega)).mono ?_
    rintro e w2 ⟨rfl, rfl⟩
    exact HS4.out.bad (grown_refl _ _) (HPQ.out.trans (HP4.out.trans ((readB_cut c5).trans (by rw [HN.out])))) rfl rfl
  obtain ⟨four, hfour⟩ : ∃ x, x = num b 4 2 := ⟨_, rfl⟩
  have bfour := num_bd HY.out 4 2
  rw [← hfour] at bfour
  have hr5 := next_ok w R A n c 4 2 b x4 HBB.out HY.out HN.out HS4.out.below HS4.out.r HS4.out.rd (by omega) (by omega) (by omega) (by have := HN.out; omega)
  rw [show (4 : Int).toNat = 4 from rfl, show (2 : Int).toNat = 2 from rfl, ← hfour] at hr5
  have hp5 := HP4.out.trans (readB_yes c5)
  rw [← hfour] at hp5
  have HP5 := Lib.hid hp5
  have Hfour := Lib.hid hfour
  clear hp5 hfour
  refine hr5.mono ?_
  clear hr5
  rintro e x5 ⟨rfl, hrd, hg⟩
  have HS5 := Lib.hid (HS4.out.next hg hrd)
  have HG5 := Lib.hid hg
  clear HS4 HP4 hrd hg
  have B4 := Lib.hid bfour
  have b0 := bfour.1
  clear bfour
  by_cases p1 : 0 < four
  case neg =>
    have up1 : decide (0 < four) = false := by simpa using p1
    have Np1 := Lib.hid p1
    clear p1
    go_wp2_with fail
    refine (ask_no _ _ _ _).mono ?_
    rintro e w2 ⟨rfl, rfl⟩
    exact HS5.out.bad (grown_refl _ _) (HPQ.out.trans (HP5.out.trans (askB_no (decide_eq_false (by have := Np1.out; omega))))) rfl rfl
  have up1 : decide (0 < four) = true := by simpa using p1
  have Pp1 := Lib.hid p1
  clear p1
  by_cases p2 : four % 4 = 0
  case neg =>
    have q2 : ¬ Int.tmod four 4 = 0 := by rw [Int.tmod_eq_emod_of_nonneg b0]; exact p2
    have Np2 := Lib.hid p2
    clear p2
    go_wp2_with fail
    refine (ask_no _ _ _ _).mono ?_
    rintro e w2 ⟨rfl, rfl⟩
    exact HS5.out.bad (grown_refl _ _) (HPQ.out.trans (HP5.out.trans (askB_no (decide_eq_false (by have := Np2.out; omega))))) rfl rfl
  have q2 : Int.tmod four 4 = 0 := by rw [Int.tmod_eq_emod_of_nonneg b0]; exact p2
  clear b0
  have Pp2 := Lib.hid p2
  clear p2
  by_cases p3 : four ≤ 4096
  case neg =>
    have up3 : decide (four ≤ 4096) = false := by simpa using p3
    have Np3 := Lib.hid p3
    clear p3
    go_wp2_with fail
    refine (ask_no _ _ _ _).mono ?_
    rintro e w2 ⟨rfl, rfl⟩
    exact HS5.out.bad (grown_refl _ _) (HPQ.out.trans (HP5.out.trans (askB_no (decide_eq_false (by have := Np3.out; omega))))) rfl rfl
  have up3 : decide (four ≤ 4096) = true := by simpa using p3
  have Pp3 := Lib.hid p3
  clear p3
  go_wp2_with fail
  refine (ask_yes _ _ _ _).mono ?_
  rintro e w2 ⟨rfl, rfl⟩
  have HP6 := Lib.hid (HP5.out.trans (askB_yes (decide_eq_true (by have := Pp1.out; have := Pp2.out; have := Pp3.out; omega))))
  clear HP5
  clear up1 q2 up3
  go_wp2_with fail
  by_cases c7 : b.length < 6 + 1
  · refine (want_cut R A n c 6 2 53 x5 HS5.out.rd (by omega) (by omega) (by have := HN.out; omega) (by have := HN.out; omega)).mono ?_
    rintro e w2 ⟨rfl, rfl⟩
    exact HS5.out.bad (grown_refl _ _) (HPQ.out.trans (HP6.out.trans ((needB_cut c7).trans (by rw [HN.out])))) rfl rfl
  by_cases d7 : num b 6 1 = 2
  case neg =>
    refine (want_no w R A n c 6 2 53 _ b x5 HBB.out HY.out HN.out HS5.out.below HS5.out.r HS5.out.rd (by omega) (by have := HN.out; omega) rfl d7).mono ?_
    rintro e w2 ⟨rfl, hg⟩
    exact HS5.out.bad hg (HPQ.out.trans (HP6.out.trans (needB_no c7 d7))) rfl rfl
  refine (want_yes w R A n c 6 2 53 b x5 HBB.out HY.out HN.out HS5.out.below HS5.out.r HS5.out.rd (by omega) (by have := HN.out; omega) d7).mono ?_
  rintro e x7 ⟨rfl, hrd, hg⟩
  have HS7 := Lib.hid (HS5.out.next hg hrd)
  have HG7 := Lib.hid hg
  have HP7 := Lib.hid (HP6.out.trans (needB_yes c7 d7))
  clear HS5 HP6 hrd hg d7
  go_wp2_with fail
  by_cases c8 : b.length < 7 + 2
  · refine (next_cut R A n c 7 2 x7 HS7.out.rd (by omega) (by omega) (by have := HN.out; omega) (by omega) (by omega) (by have := HN.out; omega)).mono ?_
    rintro e w2 ⟨rfl, rfl⟩
    exact HS7.out.bad (grown_refl _ _) (HPQ.out.trans (HP7.out.trans ((readB_cut c8).trans (by rw [HN.out])))) rfl rfl
  obtain ⟨nn, hnn⟩ : ∃ x, x = num b 7 2 := ⟨_, rfl⟩
  have bnn := num_bd HY.out 7 2
  rw [← hnn] at bnn
  have hr8 := next_ok w R A n c 7 2 b x7 HBB.out HY.out HN.out HS7.out.below HS7.out.r HS7.out.rd (by omega) (by omega) (by omega) (by have := HN.out; omega)
  rw [show (7 : Int).toNat = 7 from rfl, show (2 : Int).toNat = 2 from rfl, ← hnn] at hr8
  have hp8 := HP7.out.trans (readB_yes c8)
  rw [← hnn] at hp8
  have HP8 := Lib.hid hp8
  have Hnn := Lib.hid hnn
  clear hp8 hnn
  refine hr8.mono ?_
  clear hr8
  rintro e x8 ⟨rfl, hrd, hg⟩
  have HS8 := Lib.hid (HS7.out.next hg hrd)
  have HG8 := Lib.hid hg
  clear HS7 HP7 hrd hg
  have b2 := bnn.1
  have b3 : nn < 65536 := bnn.2
  have hw4 : IntKind.i64.wrap (4 * nn) = 4 * nn := IntWalk.i64_in _ (by omega)
  have B7 := Lib.hid bnn
  clear bnn b2 b3
  by_cases p4 : 4 * nn = four
  case neg =>
    have up4 : ((4 * nn : Int) == four) = false := by simpa using p4
    have Np4 := Lib.hid p4
    clear p4
    go_wp2_with fail
    refine (ask_no _ _ _ _).mono ?_
    rintro e w2 ⟨rfl, rfl⟩
    exact HS8.out.bad (grown_refl _ _) (HPQ.out.trans (HP8.out.trans (askB_no (decide_eq_false (by have := Np4.out; omega))))) rfl rfl
  have up4 : ((4 * nn : Int) == four) = true := by simpa using p4
  have Pp4 := Lib.hid p4
  clear p4
  go_wp2_with fail
  refine (ask_yes _ _ _ _).mono ?_
  rintro e w2 ⟨rfl, rfl⟩
  have HP9 := Lib.hid (HP8.out.trans (askB_yes (decide_eq_true (by have := Pp4.out; omega))))
  clear HP8
  obtain ⟨N, hNN⟩ : ∃ N : Nat, nn = (N : Int) := ⟨nn.toNat, by have := B7.out.1; omega⟩
  subst hNN
  clear hw4
  rename_i K1 h1 K2 h2
  refine h2 _ _ (show K1 _ _ from h1 _ _ ?_)
  clear h1 h2
  have hp9 := HP9.out
  rw [Int.toNat_natCast] at hp9
  exact st12 A n c o b w HBB.out HY.out HN.out hnc C E R N four _ (HS8.out.at (by omega)) HCR.out HER.out (by have := Pp3.out; have := Pp4.out; omega) (by have := HN.out; omega) Pp4.out (HPQ.out.trans hp9) _ _ _ _ _ _ _ _ _ _ _ _ _ _ _ _ _ _ _ _ _ _ _ _ _ _ _ _ _ _ _ _ _ _ _ _ _ _ _ _ _ _ _ _ _ _ _ _ _ _ _ _ _ _
end Go.Proofs.Ytkbboepopcebaaa
namespace Go.Proofs.Ytkbboepopcebaaa
open Go.RowKit

def wt (ll : List (List Int)) : Nat := (ll.map List.length).sum
def Small (c : Cont) : Prop := c.types.length + c.codes.length + c.subs.length + c.data.length + wt c.codes + wt c.subs ≤ 2097152
theorem wt_snoc (ll : List (List Int)) (k : Nat) (h : k < ll.length) : wt (ll.take (k + 1)) = wt (ll.take k) + (ll.getD k []).length := by
  unfold wt; rw [take_snoc' ll k [] h]; simp
def WPost (c : Cont) (w : World) (e : Ending) (w' : World) : Prop := ∃ r : Int, e = .returned (.int .i64 r) ∧ (r ≤ 2097152 → Small c) ∧ Below w.heap.size w w'
set_option maxRecDepth 100000 in
set_option maxHeartbeats 2000000 in
theorem weight_any (v : Value) (c : Cont) (w : World) (h : ContV w v c) : Calls Try.prog 16 #[v] w (WPost c w) := by
  obtain ⟨vt, vc, vs, vd, rfl, ⟨A0, c0, rfl, _, _, hr0, ht⟩, ⟨A1, c1, rfl, _, _, hc⟩, ⟨A2, c2, rfl, _, _, hs⟩, ⟨A3, c3, rfl, _, _, hd⟩⟩ := h
  obtain ⟨n0, h0⟩ : ∃ n0, n0 = c.types.length := ⟨_, rfl⟩
  obtain ⟨n1, h1⟩ : ∃ n1, n1 = c.codes.length := ⟨_, rfl⟩
  obtain ⟨n2, h2⟩ : ∃ n2, n2 = c.subs.length := ⟨_, rfl⟩
  obtain ⟨n3, h3⟩ : ∃ n3, n3 = c.data.length := ⟨_, rfl⟩
  obtain ⟨sz, hsz⟩ : ∃ sz, sz = c.size := ⟨_, rfl⟩
  have m0 : n0 ≤ 140737488351232 := by unfold reach at hr0; omega
  have m1 : n1 ≤ 140737488351232 := by have := hc.1; unfold reach at this; omega
  have m2 : n2 ≤ 140737488351232 := by have := hs.1; unfold reach at this; omega
  have m3 : n3 ≤ 140737488351232 := by have := hd.1; unfold reach at this; omega
  rw [← h0, ← h1, ← h2, ← h3, ← hsz]
  obtain ⟨va, hva⟩ : ∃ va, va = #[Value.slice A0 n0 c0, .slice A1 n1 c1, .slice A2 n2 c2, .slice A3 n3 c3, .int .i64 sz] := ⟨_, rfl⟩
  have hb := below_alloc w (.cells va 28)
  have HC := Lib.hid (hc.mono hb)
  have HS := Lib.hid (hs.mono hb)
  rw [hva] at HC HS
  have H0 := Lib.hid h0
  have H1 := Lib.hid h1
  have H2 := Lib.hid h2
  have H3 := Lib.hid h3
  clear hc hs hd ht hr0 h0 h1 h2 h3 hsz hb hva
  go_enter Try.func16, Try.ntmps16
  go_wp2
  go_loop [3, 4] (fun v i => ∃ (k N : Nat), k ≤ n1 ∧ i = .int .i64 k ∧ v = .int .i64 N ∧ N ≤ 1125899906842624 ∧ Hid (N = n0 + n1 + n2 + n3 + wt (c.codes.take k))) (fun _ i => n1 - (intOf i).toNat)
  case atStart => exact ⟨0, n0 + n1 + n2 + n3, Nat.zero_le _, rfl, by go_num, by omega, Lib.hid (by simp [wt])⟩
  case round =>
    obtain ⟨k, N, hk, rfl, rfl, hN, hs0⟩ := hrel
    by_cases hlt : k < n1 ∧ N ≤ 2097152
    · obtain ⟨hlt, hle⟩ := hlt
      have hk2 : k < c.codes.length := by have := H1.out; omega
      obtain ⟨b1, o1, rfl, hcc⟩ := HC.out.2 (by omega)
      obtain ⟨v, hcell, A5, c5, rfl, _, _, hl5⟩ := hcc k hk2
      obtain ⟨l, hl⟩ : ∃ l, l = (c.codes.getD k []).length := ⟨_, rfl⟩
      rw [← hl] at hcell
      have hl6 : l ≤ 140737488351232 := by have := hl5.1; unfold reach at this; omega
      have HL := Lib.hid hl
      clear hcc hl hl5
      have hle' : (N : Int) ≤ 2097152 := by omega
      go_wp2
      go_round
      case rel => exact ⟨k + 1, N + l, by omega, by go_num, by go_num, by omega, Lib.hid (by rw [wt_snoc _ _ hk2, ← HL.out]; have := hs0.out; omega)⟩
      case measure => simp [intOf]; omega
    · have HF : Hid (N ≤ 2097152 → N = n0 + n1 + n2 + n3 + wt c.codes) := Lib.hid (by
        intro hle
        have hk1 : k = n1 := by omega
        have h5 := hs0.out
        rw [hk1, List.take_of_length_le (by have := H1.out; omega)] at h5
        exact h5)
      clear hs0
      by_cases hlt2 : k < n1
      · have hle' : ¬ (N : Int) ≤ 2097152 := by omega
        have hle'' : ¬ N ≤ 2097152 := by omega
        clear hlt
        go_wp2
        go_loop [3, 5] (fun v i => ∃ (j M : Nat), j ≤ n2 ∧ i = .int .i64 j ∧ v = .int .i64 M ∧ M ≤ 2251799813685248 ∧ Hid (M = N + wt (c.subs.take j))) (fun _ i => n2 - (intOf i).toNat)
        case atStart => exact ⟨0, N, Nat.zero_le _, rfl, rfl, by omega, Lib.hid (by simp [wt])⟩
        case round =>
          obtain ⟨j, M, hj, rfl, rfl, hM, ht0⟩ := hrel
          by_cases hlt5 : j < n2 ∧ M ≤ 2097152
          · obtain ⟨hlt5, hle5⟩ := hlt5
            have hk5 : j < c.subs.length := by have := H2.out; omega
            obtain ⟨b5, o5, rfl, hcc⟩ := HS.out.2 (by omega)
            obtain ⟨v, hcell, A5, c5, rfl, _, _, hl5⟩ := hcc j hk5
            obtain ⟨l, hl⟩ : ∃ l, l = (c.subs.getD j []).length := ⟨_, rfl⟩
            rw [← hl] at hcell
            have hl6 : l ≤ 140737488351232 := by have := hl5.1; unfold reach at this; omega
            have HL := Lib.hid hl
            clear hcc hl hl5
            have hle6 : (M : Int) ≤ 2097152 := by omega
            go_wp2
            go_round
            case rel => exact ⟨j + 1, M + l, by omega, by go_num, by go_num, by omega, Lib.hid (by rw [wt_snoc _ _ hk5, ← HL.out]; have := ht0.out; omega)⟩
            case measure => simp [intOf]; omega
          · have HF2 : Hid (M ≤ 2097152 → M = N + wt c.subs) := Lib.hid (by
              intro hle
              have hk1 : j = n2 := by omega
              have h5 := ht0.out
              rw [hk1, List.take_of_length_le (by have := H2.out; omega)] at h5
              exact h5)
            clear ht0
            by_cases hlt6 : j < n2
            · have hle5 : ¬ (M : Int) ≤ 2097152 := by omega
              have hle6 : ¬ M ≤ 2097152 := by omega
              clear hlt5
              go_wp2
              go_ret
              exact ⟨_, rfl, fun h => absurd h (by omega), below_alloc _ _⟩
            · clear hlt5
              go_wp2
              go_ret
              exact ⟨_, rfl, fun h => by
                have e2 := HF2.out (by omega)
                have e1 := HF.out (by omega)
                unfold Small
                rw [← H0.out, ← H1.out, ← H2.out, ← H3.out]
                omega, below_alloc _ _⟩
      · clear hlt
        go_wp2
        go_loop [3, 5] (fun v i => ∃ (j M : Nat), j ≤ n2 ∧ i = .int .i64 j ∧ v = .int .i64 M ∧ M ≤ 2251799813685248 ∧ Hid (M = N + wt (c.subs.take j))) (fun _ i => n2 - (intOf i).toNat)
        case atStart => exact ⟨0, N, Nat.zero_le _, rfl, rfl, by omega, Lib.hid (by simp [wt])⟩
        case round =>
          obtain ⟨j, M, hj, rfl, rfl, hM, ht0⟩ := hrel
          by_cases hlt5 : j < n2 ∧ M ≤ 2097152
          · obtain ⟨hlt5, hle5⟩ := hlt5
            have hk5 : j < c.subs.length := by have := H2.out; omega
            obtain ⟨b5, o5, rfl, hcc⟩ := HS.out.2 (by omega)
            obtain ⟨v, hcell, A5, c5, rfl, _, _, hl5⟩ := hcc j hk5
            obtain ⟨l, hl⟩ : ∃ l, l = (c.subs.getD j []).length := ⟨_, rfl⟩
            rw [← hl] at hcell
            have hl6 : l ≤ 140737488351232 := by have := hl5.1; unfold reach at this; omega
            have HL := Lib.hid hl
            clear hcc hl hl5
            have hle6 : (M : Int) ≤ 2097152 := by omega
            go_wp2
            go_round
            case rel => exact ⟨j + 1, M + l, by omega, by go_num, by go_num, by omega, Lib.hid (by rw [wt_snoc _ _ hk5, ← HL.out]; have := ht0.out; omega)⟩
            case measure => simp [intOf]; omega
          · have HF2 : Hid (M ≤ 2097152 → M = N + wt c.subs) := Lib.hid (by
              intro hle
              have hk1 : j = n2 := by omega
              have h5 := ht0.out
              rw [hk1, List.take_of_length_le (by have := H2.out; omega)] at h5
              exact h5)
            clear ht0
            by_cases hlt6 : j < n2
            · have hle5 : ¬ (M : Int) ≤ 2097152 := by omega
              have hle6 : ¬ M ≤ 2097152 := by omega
              clear hlt5
              go_wp2
              go_ret
              exact ⟨_, rfl, fun h => absurd h (by omega), below_alloc _ _⟩
            · clear hlt5
              go_wp2
              go_ret
              exact ⟨_, rfl, fun h => by
                have e2 := HF2.out (by omega)
                have e1 := HF.out (by omega)
                unfold Small
                rw [← H0.out, ← H1.out, ← H2.out, ← H3.out]
                omega, below_alloc _ _⟩
end Go.Proofs.Ytkbboepopcebaaa
