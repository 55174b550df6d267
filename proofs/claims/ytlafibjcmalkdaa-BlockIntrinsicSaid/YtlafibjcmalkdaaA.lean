/- Words shared by all texts of this seat: slices that read as lists; owned rows. Plain definitions and lemmas: no program. -/
import Derived.WalkKit
import Derived.OwnWalk
import Derived.Maps.AppendAt
import Derived.Laws.AppendOwnNone
import Derived.Laws.OwnMore
import Derived.Lib.Hide
import Derived.Deep.Draws
import Derived.Deep.LoopGhost
import Derived.Deep.QuietTactic
import Derived.BigQuiet
import Derived.KernelRfl
import Derived.Outline
import Derived.ChangeKeysEq
import Derived.Deep.MidRow
import Derived.Test.YtlafibjcmalkdaaProg
namespace Go.Proofs.Ytlafibjcmalkdaa
open Go.RowKit

def reach : Nat := 140737488351232
theorem reach_lt : reach < 9223372036854775807 := by decide
def nums (k : IntKind) (l : List Int) : List Value := l.map (Value.int k)
theorem nums_length (k : IntKind) (l : List Int) : (nums k l).length = l.length := by simp [nums]
theorem nums_append (k : IntKind) (xs ys : List Int) : nums k (xs ++ ys) = nums k xs ++ nums k ys := by simp [nums]
theorem nums_one (k : IntKind) (l : List Int) : ∀ u ∈ nums k l, u.oneCell' = true := by
  intro u hu; simp only [nums, List.mem_map] at hu; obtain ⟨z, _, rfl⟩ := hu; rfl
theorem nums_get (k : IntKind) (l : List Int) (j : Nat) (h : j < l.length) : (nums k l)[j]? = some (.int k (l.getD j 0)) := by
  simp [nums, List.getD_eq_getElem?_getD, h]

/-- The slice reads as these whole numbers. -/
def NumsR (w : World) (k : IntKind) (A : Option Addr) (l : List Int) : Prop :=
  l.length ≤ reach ∧ (0 < l.length → ∃ b o, A = some ⟨b, o, none⟩ ∧ ∀ j : Nat, j < l.length → w.cell? ⟨b, o + j, none⟩ = some (.int k (l.getD j 0)))

theorem cell_keep {w w1 : World} (h : Below w.heap.size w w1) {a : Addr} {v : Value} (hc : w.cell? a = some v) : w1.cell? a = some v :=
  (h.cell (World.block_lt_of_cell? w a hc)).trans hc
theorem NumsR.mono {w w1 : World} {k : IntKind} {A : Option Addr} {l : List Int} (h : NumsR w k A l) (hb : Below w.heap.size w w1) : NumsR w1 k A l :=
  ⟨h.1, fun hn => by obtain ⟨b, o, e, hc⟩ := h.2 hn; exact ⟨b, o, e, fun j hj => cell_keep hb (hc j hj)⟩⟩
theorem NumsR.nil (w : World) (k : IntKind) (A : Option Addr) : NumsR w k A [] := ⟨by simp [reach], fun h => by simp at h⟩

/-- A slice value that reads as these whole numbers. -/
def NumsV (w : World) (k : IntKind) (v : Value) (l : List Int) : Prop :=
  ∃ A c, v = .slice A l.length c ∧ l.length ≤ c ∧ (A = none → c = 0) ∧ NumsR w k A l
theorem NumsV.mono {w w1 : World} {k : IntKind} {v : Value} {l : List Int} (h : NumsV w k v l) (hb : Below w.heap.size w w1) : NumsV w1 k v l := by
  obtain ⟨A, c, e, h1, h2, h3⟩ := h; exact ⟨A, c, e, h1, h2, h3.mono hb⟩
theorem NumsV.nil (w : World) (k : IntKind) : NumsV w k (.slice none 0 0) [] := ⟨none, 0, rfl, Nat.le_refl _, fun _ => rfl, NumsR.nil w k none⟩
/-- What a law on append wants of its source. -/
theorem NumsR.src {w : World} {k : IntKind} {ad : Addr} {l : List Int} (h : NumsR w k (some ad) l) : ∀ j v, (nums k l)[j]? = some v → w.cell? (ad.add j) = some v := by
  intro j v hv
  have hj : j < l.length := by
    rcases Nat.lt_or_ge j l.length with h | h
    · exact h
    · simp [nums, List.getElem?_eq_none h] at hv
  obtain ⟨b, o, e, hc⟩ := h.2 (by omega)
  obtain rfl := Option.some.inj e
  rw [nums_get k l j hj] at hv
  rw [← Option.some.inj hv, Addr.add_lit]
  exact hc j hj

/-- A slice's cells, from its address on (structs lie flat). -/
def CellsR (w : World) (A : Option Addr) (cs : List Value) : Prop :=
  0 < cs.length → ∃ b o, A = some ⟨b, o, none⟩ ∧ ∀ (j : Nat) (v : Value), cs[j]? = some v → w.cell? ⟨b, o + j, none⟩ = some v
theorem CellsR.mono {w w1 : World} {A : Option Addr} {cs : List Value} (h : CellsR w A cs) (hb : Below w.heap.size w w1) : CellsR w1 A cs :=
  fun hn => by obtain ⟨b, o, e, hc⟩ := h hn; exact ⟨b, o, e, fun j v hv => cell_keep hb (hc j v hv)⟩
theorem CellsR.src {w : World} {ad : Addr} {cs : List Value} (h : CellsR w (some ad) cs) : ∀ (j : Nat) (v : Value), cs[j]? = some v → w.cell? (ad.add j) = some v := by
  intro j v hv
  have hj : 0 < cs.length := by
    rcases Nat.eq_zero_or_pos cs.length with h0 | h0
    · simp [List.eq_nil_of_length_eq_zero h0] at hv
    · exact h0
  obtain ⟨b, o, e, hc⟩ := h hj
  obtain rfl := Option.some.inj e
  rw [Addr.add_lit]
  exact hc j v hv
theorem own_cells {w : World} {base n size : Nat} {e : TypeId} {v : Value} {xs : List Value} (h : w.ownsRow base e size v n xs) : ∃ A c, v = .slice A n c ∧ n ≤ c ∧ (A = none → c = 0) ∧ CellsR w A xs := by
  rcases h.2 with ⟨rfl, h0⟩ | ⟨g, cap, cur, rfl, _, _, hn, _⟩
  · refine ⟨none, 0, by rw [h0], by omega, fun _ => rfl, fun hl => ?_⟩
    have := h.1
    subst h0
    simp at this
    subst this
    simp at hl
  · exact ⟨_, cap, rfl, hn, by simp, fun _ => ⟨g, 0, rfl, fun j u hu => by
      have := h.cells (g := g) rfl j u hu
      rwa [Addr.add_lit] at this⟩⟩

theorem below_drewN {B : Nat} {w W : World} (h : Below B w W) (n : Nat) : Below B w (W.drewN n) := ⟨h.os, h.tape, h.output, h.size, h.block⟩
theorem below_trans {B : Nat} {w w1 w2 : World} (h : Below B w w1) (hB : B ≤ w1.heap.size) (k : Below w1.heap.size w1 w2) : Below B w w2 :=
  h.trans ⟨k.os, k.tape, k.output, k.size, fun i hi => k.block i (Nat.lt_of_lt_of_le hi hB)⟩
theorem below_step {w w1 w2 : World} (h : Below w.heap.size w w1) (k : Below w1.heap.size w1 w2) : Below w.heap.size w w2 := below_trans h h.size k
theorem below_alloc (w : World) (o : Obj) : Below w.heap.size w (w.alloc o) := (Below.refl _ _).alloc (Nat.le_refl _) o
theorem grown_of_below {w w1 : World} (h : Below w.heap.size w w1) (row : Option Nat) : w.grownBy w1 row := ⟨h.os, h.tape, h.output, h.size, fun i hi _ => h.block i hi⟩

section
variable {w w1 : World} {base : Nat} {e : TypeId} {size n : Nat} {v : Value} {xs : List Value}
theorem own_below (h : w.ownsRow base e size v n xs) (hb : Below w.heap.size w w1) : w1.ownsRow base e size v n xs :=
  h.kept (grown_of_below hb none) (by cases v.ownBlock <;> simp)
theorem own_base {b : Nat} (h : w.ownsRow base e size v n xs) (hb : b ≤ base) : w.ownsRow b e size v n xs := by
  refine ⟨h.1, ?_⟩
  rcases h.2 with h' | ⟨g, cap, cur, rfl, h2, h3⟩
  · exact .inl h'
  · exact .inr ⟨g, cap, cur, rfl, by omega, h3⟩
theorem own_ge (h : w.ownsRow base e size v n xs) (k : Nat) (hk : v.ownBlock = some k) : base ≤ k := (h.lt k hk).1
theorem own_lt (h : w.ownsRow base e size v n xs) (k : Nat) (hk : v.ownBlock = some k) : k < w.heap.size := (h.lt k hk).2
theorem own_shape (h : w.ownsRow base e size v n xs) : ∃ A c, v = .slice A n c ∧ n ≤ c := by
  rcases h.2 with ⟨rfl, rfl⟩ | ⟨g, cap, cur, rfl, _, _, hn, _⟩
  · exact ⟨none, 0, rfl, Nat.le_refl _⟩
  · exact ⟨_, cap, rfl, hn⟩
theorem own_other {row : Option Nat} (h : w.ownsRow base e size v n xs) (hg : w.grownBy w1 row) (hne : v.ownBlock = none ∨ v.ownBlock ≠ row) : w1.ownsRow base e size v n xs := h.kept hg hne
end
theorem own_type_ne {w : World} {b b' : Nat} {e e' : TypeId} {s s' n n' : Nat} {v v' : Value} {xs xs' : List Value} (h : w.ownsRow b e s v n xs) (h' : w.ownsRow b' e' s' v' n' xs') (hne : e ≠ e') : v.ownBlock = none ∨ v.ownBlock ≠ v'.ownBlock := by
  rcases h.2 with ⟨rfl, _⟩ | ⟨g, cap, cur, rfl, _, hh, _⟩
  · exact .inl rfl
  · refine .inr fun hk => ?_
    rcases h'.2 with ⟨rfl, _⟩ | ⟨g', cap', cur', rfl, _, hh', _⟩
    · simp [Value.ownBlock] at hk
    · have : g = g' := by simpa [Value.ownBlock] using hk
      subst this
      rw [hh] at hh'
      injection hh' with hh'
      injection hh' with _ ht
      exact hne ht
/-- What is owned reads. -/
theorem own_nums {w : World} {base n : Nat} {e : TypeId} {k : IntKind} {v : Value} {l : List Int} (h : w.ownsRow base e 1 v n (nums k l)) (hr : l.length ≤ reach) : NumsV w k v l := by
  have hl : n = l.length := by have := h.1; simp [nums] at this; omega
  subst hl
  rcases h.2 with ⟨rfl, h0⟩ | ⟨g, cap, cur, rfl, _, _, hn, _⟩
  · obtain rfl : l = [] := List.eq_nil_of_length_eq_zero h0
    exact NumsV.nil w k
  · exact ⟨_, cap, rfl, hn, by simp, hr, fun hn => ⟨g, 0, rfl, fun j hj => by
      have := h.cells (g := g) rfl j _ (nums_get k l j hj)
      rwa [Addr.add_lit] at this⟩⟩

/-! ### Rows of arrays -/
/-- A slice of n elements of s cells each, whose cells are these. -/
def CellV (w : World) (v : Value) (n s : Nat) (cs : List Value) : Prop :=
  ∃ A c, v = .slice A n c ∧ n ≤ c ∧ (A = none → c = 0) ∧ n ≤ reach ∧ cs.length = n * s ∧ (∀ u ∈ cs, u.oneCell' = true) ∧ CellsR w A cs
theorem CellV.mono {w w1 : World} {v : Value} {n s : Nat} {cs : List Value} (h : CellV w v n s cs) (hb : Below w.heap.size w w1) : CellV w1 v n s cs := by
  obtain ⟨A, c, e, h1, h2, h3, h4, h5, h6⟩ := h; exact ⟨A, c, e, h1, h2, h3, h4, h5, h6.mono hb⟩
theorem NumsV.cells {w : World} {k : IntKind} {v : Value} {l : List Int} (h : NumsV w k v l) : CellV w v l.length 1 (nums k l) := by
  obtain ⟨A, c, e, h1, h2, h3⟩ := h
  refine ⟨A, c, e, h1, h2, h3.1, by simp [nums_length], nums_one _ _, fun hp => ?_⟩
  rw [nums_length] at hp
  obtain ⟨b, o, e, hc⟩ := h3.2 hp
  refine ⟨b, o, e, fun j u hu => ?_⟩
  have hj : j < l.length := by
    rcases Nat.lt_or_ge j l.length with h | h
    · exact h
    · simp [nums, List.getElem?_eq_none h] at hu
  rw [nums_get k l j hj] at hu
  rw [← Option.some.inj hu]
  exact hc j hj
theorem CellV.nums {w : World} {k : IntKind} {v : Value} {l : List Int} {n : Nat} (h : CellV w v n 1 (nums k l)) : NumsV w k v l := by
  obtain ⟨A, c, e, h1, h2, h3, h4, h5, h6⟩ := h
  have hn : n = l.length := by simpa [nums_length] using h4.symm
  subst hn
  refine ⟨A, c, e, h1, h2, h3, fun hp => ?_⟩
  obtain ⟨b, o, e, hc⟩ := h6 (by rw [nums_length]; exact hp)
  exact ⟨b, o, e, fun j hj => hc j _ (nums_get k l j hj)⟩
/-- Whole numbers, each of them. -/
def IntsC (k : IntKind) (cs : List Value) : Prop := ∀ j, j < cs.length → ∃ z, cs[j]? = some (.int k z)

/-! ### An array of numbers is itself -/
section
variable {P : Program}
theorem refl_items {k : IntKind} {e : TypeId} (he : P.underlying e = some (.int k)) (d : Nat) (c : Nat) (xs : Array Value) (w : World) : ∀ is : List Nat, (∀ i ∈ is, ∃ z, xs[i * c]? = some (.int k z)) → (Op.eqItems (d + 1) e c xs xs is).run P w = .ok true w
  | [], _ => by simp [Op.eqItems]
  | i :: is, h => by
    obtain ⟨z, hz⟩ := h i (by simp)
    have hp := run_part_plain (P := P) w (e := e) (by simp [Program.plainKey, he]) (off := i * c) hz
    have ih := refl_items he d c xs w is fun j hj => h j (by simp [hj])
    have hq : (Op.equalIn (d + 1) e (.int k z) (.int k z)).run P w = .ok true w := by
      have := run_equalIn_int (P := P) w d e k k z z he
      simpa using this
    simp [Op.eqItems, Sem.run_bind, hp, hq, ih]
theorem neq_self {k : IntKind} {t e : TypeId} {n : Nat} {i : TypeInfo} (hu : P.underlying t = some (.array n e)) (hi : P.info? e = some i) (hc : P.cellsOf e = 1) (he : P.underlying e = some (.int k)) (xs : Array Value) (h : ∀ j, j < n → ∃ z, xs[j]? = some (.int k z)) (w : World) :
    (binOp .neq t (.agg xs) (.agg xs)).run P w = .ok (.bool false) w := by
  rw [run_neq_struct (P := P) w t xs xs, run_equalIn_array (P := P) w 9999 xs xs hu hi, refl_items he 9998 _ xs w _ fun j hj => by rw [hc, Nat.mul_one]; exact h j (by simpa using hj)]
  rfl
end
section
variable {ops : Array Oper} {rest : List Oper} {op : Oper} {a : Act} {w : World} {Q : Exit → Act → World → Prop}
/-- A whole array out of the middle of a block, the operation guarded or not. -/
theorem wpList_load_g (hw : Region.wanted op (yielded ops a.tmps) = true) (ty : TypeId) (x : Operand) (ho : op.op = .load ty x)
    (b o : Nat) (hx : a.eval x = .pointer (some ⟨b, o, none⟩)) (xs : Array Value) (d : TypeDesc) (hc : Hid (w.rangeAt b o xs.toList))
    (hu : Try.prog.underlying ty = some d) (hd : d.isRow = true) (hi : Hid ((Try.prog.info? ty).map (·.size) = some xs.size))
    (h : wpList Try.prog ops Q rest (a.put op.dst (.agg xs)) w) : wpList Try.prog ops Q (op :: rest) a w := by
  unfold wpList
  rw [if_pos hw]
  exact .inl (wp_load_mid ty x ho b o hx xs.toList d hc.out hu hd (by simpa using hi.out) (by simpa using h))
/-- Two arrays of whole numbers that are one are not unequal. -/
theorem wpList_neq_g (hw : Region.wanted op (yielded ops a.tmps) = true) (t : TypeId) (x y : Operand) (r : TypeId) (ho : op.op = .binOp .neq t x y r) (xs : Array Value)
    (hx : a.eval x = .agg xs) (hy : a.eval y = .agg xs) (hg : Try.prog.eqGuardType Try.prog.depth t = false) (hn : ∀ w, (binOp .neq t (.agg xs) (.agg xs)).run Try.prog w = .ok (.bool false) w)
    (h : wpList Try.prog ops Q rest (a.put op.dst (.bool false)) w) : wpList Try.prog ops Q (op :: rest) a w := by
  unfold wpList
  rw [if_pos hw]
  refine .inl ?_
  unfold Oper.wp execOp
  simp [ho, hx, hy, eqGuard, Sem.run_bind, Sem.run_pure, Result.andThen_ok, hg, hn]
  rw [Oper.upon_value]
  exact h
/-- A struct or an array is built. -/
theorem wpList_build_g (hw : Region.wanted op (yielded ops a.tmps) = true) (t : TypeId) (parts : Array (Nat × Operand)) (ho : op.op = .build t parts) (xs : Array Value)
    (hb : (Instr.build t (parts.map fun (i, x) => (i, a.eval x))).run Try.prog w = .ok (.agg xs) w)
    (h : wpList Try.prog ops Q rest (a.put op.dst (.agg xs)) w) : wpList Try.prog ops Q (op :: rest) a w := by
  unfold wpList
  rw [if_pos hw]
  refine .inl ?_
  unfold Oper.wp execOp
  simp only [ho, Sem.run_bind, hb, Result.andThen_ok]
  exact h
end
theorem range_drewN {w : World} {b o : Nat} {cs : List Value} (h : w.rangeAt b o cs) (n : Nat) : (w.drewN n).rangeAt b o cs := fun j v hv => cell_keep (below_drewN (Below.refl _ _) n) (h j v hv)
section
variable {ops : Array Oper} {rest : List Oper} {op : Oper} {a : Act} {w : World} {Q : Act → Prop}
/-- The same three in a region of any order that only reads. -/
theorem wpQuiet_load_g (hw : Region.wanted op (yielded ops a.tmps) = true) (ty : TypeId) (x : Operand) (ho : op.op = .load ty x)
    (b o : Nat) (hx : a.eval x = .pointer (some ⟨b, o, none⟩)) (xs : Array Value) (d : TypeDesc) (hc : Hid (w.rangeAt b o xs.toList))
    (hu : Try.prog.underlying ty = some d) (hd : d.isRow = true) (hi : Hid ((Try.prog.info? ty).map (·.size) = some xs.size))
    (h : wpQuiet Try.prog ops (fun w' => ∃ n, w' = w.drewN n) Q rest (a.put op.dst (.agg xs))) : wpQuiet Try.prog ops (fun w' => ∃ n, w' = w.drewN n) Q (op :: rest) a := by
  unfold wpQuiet
  rw [if_pos hw]
  refine ⟨.agg xs, ?_, h⟩
  rintro _ ⟨n, rfl⟩
  unfold Oper.quietAt execOp
  simp only [ho, hx, Sem.run_bind, run_loadAt_mid (P := Try.prog) (w.drewN n) b o ty xs.toList d (range_drewN hc.out n) hu hd (by simpa using hi.out), Result.andThen_ok]
  exact ⟨rfl, rfl⟩
theorem wpQuiet_neq_g {C : World → Prop} (hw : Region.wanted op (yielded ops a.tmps) = true) (t : TypeId) (x y : Operand) (r : TypeId) (ho : op.op = .binOp .neq t x y r) (xs : Array Value)
    (hx : a.eval x = .agg xs) (hy : a.eval y = .agg xs) (hg : Try.prog.eqGuardType Try.prog.depth t = false) (hn : ∀ w, (binOp .neq t (.agg xs) (.agg xs)).run Try.prog w = .ok (.bool false) w)
    (h : wpQuiet Try.prog ops C Q rest (a.put op.dst (.bool false))) : wpQuiet Try.prog ops C Q (op :: rest) a := by
  unfold wpQuiet
  rw [if_pos hw]
  refine ⟨.bool false, ?_, h⟩
  intro w' _
  unfold Oper.quietAt execOp
  simp [ho, hx, hy, eqGuard, Sem.run_bind, Sem.run_pure, Result.andThen_ok, hg, hn]
  exact ⟨rfl, rfl⟩
theorem wpQuiet_build_g {C : World → Prop} (hw : Region.wanted op (yielded ops a.tmps) = true) (t : TypeId) (parts : Array (Nat × Operand)) (ho : op.op = .build t parts) (xs : Array Value)
    (hb : ∀ w, (Instr.build t (parts.map fun (i, x) => (i, a.eval x))).run Try.prog w = .ok (.agg xs) w)
    (h : wpQuiet Try.prog ops C Q rest (a.put op.dst (.agg xs))) : wpQuiet Try.prog ops C Q (op :: rest) a := by
  unfold wpQuiet
  rw [if_pos hw]
  refine ⟨.agg xs, ?_, h⟩
  intro w' _
  unfold Oper.quietAt execOp
  simp only [ho, Sem.run_bind, hb, Result.andThen_ok]
  exact ⟨rfl, rfl⟩
end
end Go.Proofs.Ytlafibjcmalkdaa
