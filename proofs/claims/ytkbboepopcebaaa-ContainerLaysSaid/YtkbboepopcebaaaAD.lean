/- Where Parse stands: its variables, its reader; lemmas. -/
import Derived.Test.YtkbboepopcebaaaAC
namespace Go.Proofs.Ytkbboepopcebaaa
open Go.RowKit

/-- The container's variable, cell by cell. -/
structure CC (w : World) (C : Nat) (v0 v1 v2 v3 v4 : Value) : Prop where
  c0 : w.cell? ⟨C, 0, none⟩ = some v0
  c1 : w.cell? ⟨C, 1, none⟩ = some v1
  c2 : w.cell? ⟨C, 2, none⟩ = some v2
  c3 : w.cell? ⟨C, 3, none⟩ = some v3
  c4 : w.cell? ⟨C, 4, none⟩ = some v4
  free : ∀ j, w.frozen? ⟨C, j, none⟩ = false
/-- The refusal's variable: nothing is refused. -/
structure EE (w : World) (E : Nat) : Prop where
  e0 : w.cell? ⟨E, 0, none⟩ = some (.int .i64 0)
  e1 : w.cell? ⟨E, 1, none⟩ = some (.slice none 0 0)
  e2 : w.cell? ⟨E, 2, none⟩ = some (.int .i64 0)
  e3 : w.cell? ⟨E, 3, none⟩ = some (.int .i64 0)
  free : ∀ j, w.frozen? ⟨E, j, none⟩ = false
theorem CC.lt {w : World} {C : Nat} {v0 v1 v2 v3 v4 : Value} (h : CC w C v0 v1 v2 v3 v4) : C < w.heap.size := World.block_lt_of_cell? w _ h.c0
theorem EE.lt {w : World} {E : Nat} (h : EE w E) : E < w.heap.size := World.block_lt_of_cell? w _ h.e0
theorem CC.of_block {w w1 : World} {C : Nat} {v0 v1 v2 v3 v4 : Value} (h : CC w C v0 v1 v2 v3 v4) (hb : w1.heap[C]? = w.heap[C]?) : CC w1 C v0 v1 v2 v3 v4 :=
  ⟨(World.cell?_of_block (w := w) hb).trans h.c0, (World.cell?_of_block (w := w) hb).trans h.c1, (World.cell?_of_block (w := w) hb).trans h.c2, (World.cell?_of_block (w := w) hb).trans h.c3, (World.cell?_of_block (w := w) hb).trans h.c4, fun j => (World.frozen?_of_block (w := w) hb).trans (h.free j)⟩
theorem EE.of_block {w w1 : World} {E : Nat} (h : EE w E) (hb : w1.heap[E]? = w.heap[E]?) : EE w1 E :=
  ⟨(World.cell?_of_block (w := w) hb).trans h.e0, (World.cell?_of_block (w := w) hb).trans h.e1, (World.cell?_of_block (w := w) hb).trans h.e2, (World.cell?_of_block (w := w) hb).trans h.e3, fun j => (World.frozen?_of_block (w := w) hb).trans (h.free j)⟩
theorem CC.set4 {w : World} {C : Nat} {v0 v1 v2 v3 v4 : Value} (h : CC w C v0 v1 v2 v3 v4) (v : Value) : CC (w.setCell ⟨C, 4, none⟩ v) C v0 v1 v2 v3 v :=
  ⟨by rw [World.cell?_setCell_other _ _ _ _ (by simp)]; exact h.c0, by rw [World.cell?_setCell_other _ _ _ _ (by simp)]; exact h.c1, by rw [World.cell?_setCell_other _ _ _ _ (by simp)]; exact h.c2, by rw [World.cell?_setCell_other _ _ _ _ (by simp)]; exact h.c3, World.cell?_setCell_same _ _ _ h.c4, fun j => by rw [World.frozen?_setCell]; exact h.free j⟩
theorem CC.set3 {w : World} {C : Nat} {v0 v1 v2 v3 v4 : Value} (h : CC w C v0 v1 v2 v3 v4) (v : Value) : CC (w.setCell ⟨C, 3, none⟩ v) C v0 v1 v2 v v4 :=
  ⟨by rw [World.cell?_setCell_other _ _ _ _ (by simp)]; exact h.c0, by rw [World.cell?_setCell_other _ _ _ _ (by simp)]; exact h.c1, by rw [World.cell?_setCell_other _ _ _ _ (by simp)]; exact h.c2, World.cell?_setCell_same _ _ _ h.c3, by rw [World.cell?_setCell_other _ _ _ _ (by simp)]; exact h.c4, fun j => by rw [World.frozen?_setCell]; exact h.free j⟩
theorem CC.set2 {w : World} {C : Nat} {v0 v1 v2 v3 v4 : Value} (h : CC w C v0 v1 v2 v3 v4) (v : Value) : CC (w.setCell ⟨C, 2, none⟩ v) C v0 v1 v v3 v4 :=
  ⟨by rw [World.cell?_setCell_other _ _ _ _ (by simp)]; exact h.c0, by rw [World.cell?_setCell_other _ _ _ _ (by simp)]; exact h.c1, World.cell?_setCell_same _ _ _ h.c2, by rw [World.cell?_setCell_other _ _ _ _ (by simp)]; exact h.c3, by rw [World.cell?_setCell_other _ _ _ _ (by simp)]; exact h.c4, fun j => by rw [World.frozen?_setCell]; exact h.free j⟩
theorem CC.set1 {w : World} {C : Nat} {v0 v1 v2 v3 v4 : Value} (h : CC w C v0 v1 v2 v3 v4) (v : Value) : CC (w.setCell ⟨C, 1, none⟩ v) C v0 v v2 v3 v4 :=
  ⟨by rw [World.cell?_setCell_other _ _ _ _ (by simp)]; exact h.c0, World.cell?_setCell_same _ _ _ h.c1, by rw [World.cell?_setCell_other _ _ _ _ (by simp)]; exact h.c2, by rw [World.cell?_setCell_other _ _ _ _ (by simp)]; exact h.c3, by rw [World.cell?_setCell_other _ _ _ _ (by simp)]; exact h.c4, fun j => by rw [World.frozen?_setCell]; exact h.free j⟩
theorem set_block {w : World} {C E o : Nat} (v : Value) (h : E ≠ C) : (w.setCell ⟨C, o, none⟩ v).heap[E]? = w.heap[E]? := Below.heap_setCell w _ _ E (by simpa using h)

/-- Where Parse stands: the result variables, the reader, and nothing older turned. -/
structure PSx (w0 w : World) (C E R : Nat) (A : Option Addr) (n c : Nat) (a : Int) (v0 v1 v2 v3 v4 : Value) : Prop where
  below : Below w0.heap.size w0 w
  rd : RdAt w R A n c a
  cc : CC w C v0 v1 v2 v3 v4
  ee : EE w E
  c : w0.heap.size ≤ C
  e : w0.heap.size ≤ E
  r : w0.heap.size ≤ R
  cr : C ≠ R
  er : E ≠ R
  ce : C ≠ E
section
variable {b : List Int} {o : Bool} {w0 w w1 : World} {C E R : Nat} {A : Option Addr} {n c : Nat} {a a' : Int} {t : Array Value} {x y : Int} {v0 v1 v2 v3 v4 : Value}
theorem PSx.vars (h : PSx w0 w C E R A n c a v0 v1 v2 v3 v4) : Vars w C E := by
  refine ⟨fun j hj => ?_, fun j hj => ?_, h.cc.free, h.ee.free, h.ce⟩
  · rcases (show j = 0 ∨ j = 1 ∨ j = 2 ∨ j = 3 ∨ j = 4 by omega) with rfl | rfl | rfl | rfl | rfl
    · exact ⟨_, h.cc.c0⟩
    · exact ⟨_, h.cc.c1⟩
    · exact ⟨_, h.cc.c2⟩
    · exact ⟨_, h.cc.c3⟩
    · exact ⟨_, h.cc.c4⟩
  · rcases (show j = 0 ∨ j = 1 ∨ j = 2 ∨ j = 3 by omega) with rfl | rfl | rfl | rfl
    · exact ⟨_, h.ee.e0⟩
    · exact ⟨_, h.ee.e1⟩
    · exact ⟨_, h.ee.e2⟩
    · exact ⟨_, h.ee.e3⟩
theorem PSx.next (h : PSx w0 w C E R A n c a v0 v1 v2 v3 v4) (hg : w.grownBy w1 (some R)) (hr : RdAt w1 R A n c a') : PSx w0 w1 C E R A n c a' v0 v1 v2 v3 v4 :=
  ⟨h.below.grown hg h.below.size (by rintro k ⟨⟩; exact h.r), hr, h.cc.of_block (hg.block C h.cc.lt (by simpa using h.cr)), h.ee.of_block (hg.block E h.ee.lt (by simpa using h.er)), h.c, h.e, h.r, h.cr, h.er, h.ce⟩
theorem PSx.at (h : PSx w0 w C E R A n c a v0 v1 v2 v3 v4) (e : a = a') : PSx w0 w C E R A n c a' v0 v1 v2 v3 v4 := e ▸ h
theorem PSx.bad (h : PSx w0 w C E R A n c a v0 v1 v2 v3 v4) (hg : w.grownBy w1 (some R)) (hp : parse b o = .error (x, y)) (h4 : t[4]?.getD undef = .pointer (some ⟨C, 0, none⟩)) (h5 : t[5]?.getD undef = .pointer (some ⟨E, 0, none⟩)) :
    bodyPostD Try.prog Try.f29 (PPost b o w0) (Exit.panic [wrongV x y]) { tmps := t, defers := [{ target := Target.fn (Fn.func 51) #[.pointer (some ⟨C, 0, none⟩), .pointer (some ⟨E, 0, none⟩)], args := #[] }] } w1 :=
  parse_bad hp h4 h5 (h.vars.grown hg h.cr h.er) (h.below.grown hg h.below.size (by rintro k ⟨⟩; exact h.r)) h.c h.e
end
theorem PSx.start (w : World) (A : Option Addr) (n c : Nat) : PSx w (W3 w A n c) w.heap.size (w.heap.size + 1) (w.heap.size + 1 + 1) A n c 0 (.slice none 0 0) (.slice none 0 0) (.slice none 0 0) (.slice none 0 0) (.int .i64 0) := by
  have s1 : (w.alloc (.cells #[.slice none 0 0, .slice none 0 0, .slice none 0 0, .slice none 0 0, .int .i64 0] 28)).heap.size = w.heap.size + 1 := by simp
  obtain ⟨w1, h1⟩ : ∃ w1, w1 = w.alloc (.cells #[.slice none 0 0, .slice none 0 0, .slice none 0 0, .slice none 0 0, .int .i64 0] 28) := ⟨_, rfl⟩
  obtain ⟨w2, h2⟩ : ∃ w2, w2 = w1.alloc (.cells #[.int .i64 0, .slice none 0 0, .int .i64 0, .int .i64 0] 43) := ⟨_, rfl⟩
  have s1' : w1.heap.size = w.heap.size + 1 := by rw [h1]; simp
  have s2' : w2.heap.size = w.heap.size + 1 + 1 := by rw [h2]; simp [s1']
  have hs := PSt.start w A n c
  have e3 : W3 w A n c = w2.alloc (.cells #[.slice A n c, .int .i64 0] 86) := by rw [h2, h1]; rfl
  rw [e3] at hs ⊢
  have b2 : Below w1.heap.size w1 w2 := by rw [h2]; exact below_alloc _ _
  have b3 : Below w2.heap.size w2 (w2.alloc (.cells #[.slice A n c, .int .i64 0] 86)) := below_alloc _ _
  have b13 := below_step b2 b3
  refine ⟨hs.below, hs.rd, ⟨?_, ?_, ?_, ?_, ?_, hs.vars.fc⟩, ⟨?_, ?_, ?_, ?_, hs.vars.fe⟩, hs.c, hs.e, hs.r, hs.cr, hs.er, hs.vars.ne⟩
  · exact cell_keep b13 (by rw [h1]; exact box1_at _ _ _ _ _ rfl)
  · exact cell_keep b13 (by rw [h1]; exact box1_at _ _ _ _ _ rfl)
  · exact cell_keep b13 (by rw [h1]; exact box1_at _ _ _ _ _ rfl)
  · exact cell_keep b13 (by rw [h1]; exact box1_at _ _ _ _ _ rfl)
  · exact cell_keep b13 (by rw [h1]; exact box1_at _ _ _ _ _ rfl)
  · exact cell_keep b3 (by rw [h2, ← s1']; exact box1_at _ _ _ _ _ rfl)
  · exact cell_keep b3 (by rw [h2, ← s1']; exact box1_at _ _ _ _ _ rfl)
  · exact cell_keep b3 (by rw [h2, ← s1']; exact box1_at _ _ _ _ _ rfl)
  · exact cell_keep b3 (by rw [h2, ← s1']; exact box1_at _ _ _ _ _ rfl)

/-- A list of lengths, of the call's own, made behind the blocks of Parse. -/
def Lst (w : World) (M : Nat) (v : Value) (l : List Int) : Prop := ∃ B, M < B ∧ w.ownsRow B 3 1 v l.length (nums .i64 l)
theorem Lst.grown {w w1 : World} {M R : Nat} {v : Value} {l : List Int} (h : Lst w M v l) (hg : w.grownBy w1 (some R)) (hR : R ≤ M) : Lst w1 M v l := by
  obtain ⟨B, hB, ho⟩ := h
  exact ⟨B, hB, own_other ho hg (.inr fun e => by have := own_ge ho R e; omega)⟩
theorem Two.row {w w1 : World} {R C M e s n : Nat} {v : Value} {xs : List Value} (h : Two w w1 R C) (ho : w.ownsRow M e s v n xs) (hR : R < M) (hC : C < M) : w1.ownsRow M e s v n xs := by
  have hg : w.grownBy w1 v.ownBlock → w1.ownsRow M e s v n xs := fun _ => by
    rcases ho.2 with h0 | ⟨g, cap, cur, rfl, hg, hh, hr⟩
    · exact ⟨ho.1, .inl h0⟩
    · have hlt : g < w.heap.size := (ho.lt g rfl).2
      exact ⟨ho.1, .inr ⟨g, cap, cur, rfl, hg, (h.block g hlt (by omega) (by omega)).trans hh, hr⟩⟩
  rcases ho.2 with h0 | ⟨g, cap, cur, rfl, hg', hh, hr⟩
  · exact ⟨ho.1, .inl h0⟩
  · have hlt : g < w.heap.size := (ho.lt g rfl).2
    exact ⟨ho.1, .inr ⟨g, cap, cur, rfl, hg', (h.block g hlt (by omega) (by omega)).trans hh, hr⟩⟩
theorem Lst.two {w w1 : World} {M R C : Nat} {v : Value} {l : List Int} (h : Lst w M v l) (hg : Two w w1 R C) (hR : R ≤ M) (hC : C ≤ M) : Lst w1 M v l := by
  obtain ⟨B, hB, ho⟩ := h
  exact ⟨B, hB, hg.row ho (by omega) (by omega)⟩
theorem Lst.nil (w : World) (M : Nat) : Lst w M (.slice none 0 0) [] := ⟨M + 1, by omega, World.ownsRow_nil _ _ _ _⟩
theorem Lst.reads {w : World} {M : Nat} {v : Value} {l : List Int} (h : Lst w M v l) (hr : l.length ≤ reach) : ∃ L cc, v = .slice L l.length cc ∧ NumsR w .i64 L l ∧ ∀ b o, L = some ⟨b, o, none⟩ → M < b := by
  obtain ⟨B, hB, ho⟩ := h
  obtain ⟨L, cc, rfl, _, _, hn⟩ := own_nums ho hr
  refine ⟨L, cc, rfl, hn, fun b o e => ?_⟩
  subst e
  have := own_ge ho b rfl
  omega
theorem szs_len {b : List Int} {s : Nat} : ∀ {k a : Nat} {l : List Int}, szs b s k a = .ok l → l.length = k
  | 0, _, l, h => by simp only [szs, Except.ok.injEq] at h; subst h; rfl
  | k + 1, a, l, h => by
    simp only [szs] at h
    split at h
    · simp at h
    · split at h
      · simp at h
      · split at h
        · rename_i l' hl'
          simp only [Except.ok.injEq] at h
          subst h
          simp [szs_len hl']
        · simp at h
theorem szs_pos {b : List Int} {s : Nat} : ∀ {k a : Nat} {l : List Int}, szs b s k a = .ok l → ∀ x ∈ l, 1 ≤ x
  | 0, _, l, h => by simp only [szs, Except.ok.injEq] at h; subst h; simp
  | k + 1, a, l, h => by
    simp only [szs] at h
    split at h
    · simp at h
    · split at h
      · simp at h
      · rename_i hp
        split at h
        · rename_i l' hl'
          simp only [Except.ok.injEq] at h
          subst h
          intro x hx
          rcases List.mem_cons.1 hx with rfl | hx
          · omega
          · exact szs_pos hl' x hx
        · simp at h
theorem szs_sum {b : List Int} (hb : Byt b) {s : Nat} : ∀ {k a : Nat} {l : List Int}, szs b s k a = .ok l → l.sum ≤ k * 256 ^ s
  | 0, _, l, h => by simp only [szs, Except.ok.injEq] at h; subst h; simp
  | k + 1, a, l, h => by
    simp only [szs] at h
    split at h
    · simp at h
    · split at h
      · simp at h
      · split at h
        · rename_i l' hl'
          simp only [Except.ok.injEq] at h
          subst h
          have h1 := szs_sum hb hl'
          have h2 := (num_bd hb a s).2
          have h3 : ((k + 1 : Nat) : Int) * 256 ^ s = k * 256 ^ s + 256 ^ s := by rw [show ((k + 1 : Nat) : Int) = (k : Int) + 1 by omega, Int.add_mul, Int.one_mul]
          rw [List.sum_cons, h3]
          omega
        · simp at h
theorem szs_ge {b : List Int} {s : Nat} : ∀ {k a : Nat} {l : List Int}, szs b s k a = .ok l → a ≤ b.length → a + k * s ≤ b.length
  | 0, _, l, h, h0 => by simpa using h0
  | k + 1, a, l, h, h0 => by
    simp only [szs] at h
    split at h
    · simp at h
    · split at h
      · simp at h
      · split at h
        · rename_i l' hl'
          have := szs_ge hl' (by omega)
          rw [Nat.add_mul]
          omega
        · simp at h
/-- The code from the k-th statement on. -/
def spine : Nat → Code → Code
  | 0, c => c
  | k + 1, .seq _ b => spine k b
  | _, c => c
noncomputable def rest29 (k : Nat) : Code := spine k (Try.f29.body.getD .skip)
end Go.Proofs.Ytkbboepopcebaaa
